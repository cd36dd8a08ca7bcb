/- For every input ListNext returns true, and leaves its argument as it was. Conditions: none beyond the given statement. (Part 3 of 8.) -/
import Derived.Test.YtohlllohmoojiaaGreatDoorLn2
import Derived.Laws.BitsAllLaws
/- The closed facts on the types and the functions of this seat's translation, as instances. Written by inst.py. -/
namespace Go.Proofs.YtohlllohmoojiaaGreatDoor
set_option maxRecDepth 100000
set_option maxHeartbeats 16000000
open Go Go.RowKit
set_option maxRecDepth 100000
instance ty2 : TyA Tryz.prog 2 false 1 := ⟨fun _ => by kernel_rfl, fun _ => by kernel_rfl⟩
instance un2 : Und Tryz.prog 2 (.int .i64) := ⟨Tryz.underlying2⟩
instance ze2 : ZeroA Tryz.prog 2 (Value.int .i64 0) := ⟨fun _ => by kernel_rfl⟩
instance in2 : InfoA Tryz.prog 2 (Value.int .i64 0) 1 8 := ⟨by kernel_rfl⟩
instance ty3 : TyA Tryz.prog 3 false 1 := ⟨fun _ => by kernel_rfl, fun _ => by kernel_rfl⟩
instance un3 : Und Tryz.prog 3 (.int .i64) := ⟨Tryz.underlying3⟩
instance ze3 : ZeroA Tryz.prog 3 (Value.int .i64 0) := ⟨fun _ => by kernel_rfl⟩
instance in3 : InfoA Tryz.prog 3 (Value.int .i64 0) 1 8 := ⟨by kernel_rfl⟩
instance ty4 : TyA Tryz.prog 4 false 1 := ⟨fun _ => by kernel_rfl, fun _ => by kernel_rfl⟩
instance un4 : Und Tryz.prog 4 (.bool) := ⟨Tryz.underlying4⟩
instance ze4 : ZeroA Tryz.prog 4 (Value.bool false) := ⟨fun _ => by kernel_rfl⟩
instance in4 : InfoA Tryz.prog 4 (Value.bool false) 1 1 := ⟨by kernel_rfl⟩
instance ty5 : TyA Tryz.prog 5 false 1 := ⟨fun _ => by kernel_rfl, fun _ => by kernel_rfl⟩
instance un5 : Und Tryz.prog 5 (.int .u8) := ⟨Tryz.underlying5⟩
instance ze5 : ZeroA Tryz.prog 5 (Value.int .u8 0) := ⟨fun _ => by kernel_rfl⟩
instance in5 : InfoA Tryz.prog 5 (Value.int .u8 0) 1 1 := ⟨by kernel_rfl⟩
instance ty6 : TyA Tryz.prog 6 false 1 := ⟨fun _ => by kernel_rfl, fun _ => by kernel_rfl⟩
instance un6 : Und Tryz.prog 6 (.int .u8) := ⟨Tryz.underlying6⟩
instance ze6 : ZeroA Tryz.prog 6 (Value.int .u8 0) := ⟨fun _ => by kernel_rfl⟩
instance in6 : InfoA Tryz.prog 6 (Value.int .u8 0) 1 1 := ⟨by kernel_rfl⟩
instance ty7 : TyA Tryz.prog 7 true 4 := ⟨fun _ => by kernel_rfl, fun _ => by kernel_rfl⟩
instance bu7 : BuildA Tryz.prog 7 [(0, 1), (1, 1), (2, 1), (3, 1)] := ⟨by kernel_rfl, by kernel_rfl⟩
instance fv7_0 : FieldT Tryz.prog 7 0 2 0 := ⟨by kernel_rfl, by kernel_rfl⟩
instance fv7_1 : FieldT Tryz.prog 7 1 3 1 := ⟨by kernel_rfl, by kernel_rfl⟩
instance fv7_2 : FieldT Tryz.prog 7 2 4 2 := ⟨by kernel_rfl, by kernel_rfl⟩
instance fv7_3 : FieldT Tryz.prog 7 3 6 3 := ⟨by kernel_rfl, by kernel_rfl⟩
instance fi7_0 : FieldA Tryz.prog 7 0 0 := ⟨fun _ _ _ => by kernel_rfl⟩
instance fi7_1 : FieldA Tryz.prog 7 1 1 := ⟨fun _ _ _ => by kernel_rfl⟩
instance fi7_2 : FieldA Tryz.prog 7 2 2 := ⟨fun _ _ _ => by kernel_rfl⟩
instance fi7_3 : FieldA Tryz.prog 7 3 3 := ⟨fun _ _ _ => by kernel_rfl⟩
instance ze7 : ZeroA Tryz.prog 7 (Value.agg #[Value.int .i64 0, Value.int .i64 0, Value.bool false, Value.int .u8 0]) := ⟨fun _ => by kernel_rfl⟩
instance in7 : InfoA Tryz.prog 7 (Value.agg #[Value.int .i64 0, Value.int .i64 0, Value.bool false, Value.int .u8 0]) 4 24 := ⟨by kernel_rfl⟩
instance ty8 : TyA Tryz.prog 8 true 4 := ⟨fun _ => by kernel_rfl, fun _ => by kernel_rfl⟩
instance bu8 : BuildA Tryz.prog 8 [(0, 1), (1, 1), (2, 1), (3, 1)] := ⟨by kernel_rfl, by kernel_rfl⟩
instance fv8_0 : FieldT Tryz.prog 8 0 2 0 := ⟨by kernel_rfl, by kernel_rfl⟩
instance fv8_1 : FieldT Tryz.prog 8 1 3 1 := ⟨by kernel_rfl, by kernel_rfl⟩
instance fv8_2 : FieldT Tryz.prog 8 2 4 2 := ⟨by kernel_rfl, by kernel_rfl⟩
instance fv8_3 : FieldT Tryz.prog 8 3 6 3 := ⟨by kernel_rfl, by kernel_rfl⟩
instance fi8_0 : FieldA Tryz.prog 8 0 0 := ⟨fun _ _ _ => by kernel_rfl⟩
instance fi8_1 : FieldA Tryz.prog 8 1 1 := ⟨fun _ _ _ => by kernel_rfl⟩
instance fi8_2 : FieldA Tryz.prog 8 2 2 := ⟨fun _ _ _ => by kernel_rfl⟩
instance fi8_3 : FieldA Tryz.prog 8 3 3 := ⟨fun _ _ _ => by kernel_rfl⟩
instance ze8 : ZeroA Tryz.prog 8 (Value.agg #[Value.int .i64 0, Value.int .i64 0, Value.bool false, Value.int .u8 0]) := ⟨fun _ => by kernel_rfl⟩
instance in8 : InfoA Tryz.prog 8 (Value.agg #[Value.int .i64 0, Value.int .i64 0, Value.bool false, Value.int .u8 0]) 4 24 := ⟨by kernel_rfl⟩
instance ty9 : TyA Tryz.prog 9 false 1 := ⟨fun _ => by kernel_rfl, fun _ => by kernel_rfl⟩
instance un9 : Und Tryz.prog 9 (.string) := ⟨Tryz.underlying9⟩
instance ze9 : ZeroA Tryz.prog 9 (Value.string ⟨#[]⟩) := ⟨fun _ => by kernel_rfl⟩
instance in9 : InfoA Tryz.prog 9 (Value.string ⟨#[]⟩) 1 16 := ⟨by kernel_rfl⟩
instance ty10 : TyA Tryz.prog 10 false 1 := ⟨fun _ => by kernel_rfl, fun _ => by kernel_rfl⟩
instance un10 : Und Tryz.prog 10 (.string) := ⟨Tryz.underlying10⟩
instance ze10 : ZeroA Tryz.prog 10 (Value.string ⟨#[]⟩) := ⟨fun _ => by kernel_rfl⟩
instance in10 : InfoA Tryz.prog 10 (Value.string ⟨#[]⟩) 1 16 := ⟨by kernel_rfl⟩
instance ty11 : TyA Tryz.prog 11 false 1 := ⟨fun _ => by kernel_rfl, fun _ => by kernel_rfl⟩
instance un11 : Und Tryz.prog 11 (.string) := ⟨Tryz.underlying11⟩
instance ze11 : ZeroA Tryz.prog 11 (Value.string ⟨#[]⟩) := ⟨fun _ => by kernel_rfl⟩
instance in11 : InfoA Tryz.prog 11 (Value.string ⟨#[]⟩) 1 16 := ⟨by kernel_rfl⟩
instance ty12 : TyA Tryz.prog 12 false 1 := ⟨fun _ => by kernel_rfl, fun _ => by kernel_rfl⟩
instance un12 : Und Tryz.prog 12 (.int .u64) := ⟨Tryz.underlying12⟩
instance ze12 : ZeroA Tryz.prog 12 (Value.int .u64 0) := ⟨fun _ => by kernel_rfl⟩
instance in12 : InfoA Tryz.prog 12 (Value.int .u64 0) 1 8 := ⟨by kernel_rfl⟩
instance ty13 : TyA Tryz.prog 13 true 2 := ⟨fun _ => by kernel_rfl, fun _ => by kernel_rfl⟩
instance bu13 : BuildA Tryz.prog 13 [(0, 1), (1, 1)] := ⟨by kernel_rfl, by kernel_rfl⟩
instance fv13_0 : FieldT Tryz.prog 13 0 9 0 := ⟨by kernel_rfl, by kernel_rfl⟩
instance fv13_1 : FieldT Tryz.prog 13 1 12 1 := ⟨by kernel_rfl, by kernel_rfl⟩
instance fi13_0 : FieldA Tryz.prog 13 0 0 := ⟨fun _ _ _ => by kernel_rfl⟩
instance fi13_1 : FieldA Tryz.prog 13 1 1 := ⟨fun _ _ _ => by kernel_rfl⟩
instance ze13 : ZeroA Tryz.prog 13 (Value.agg #[Value.string ⟨#[]⟩, Value.int .u64 0]) := ⟨fun _ => by kernel_rfl⟩
instance in13 : InfoA Tryz.prog 13 (Value.agg #[Value.string ⟨#[]⟩, Value.int .u64 0]) 2 24 := ⟨by kernel_rfl⟩
instance ty14 : TyA Tryz.prog 14 true 2 := ⟨fun _ => by kernel_rfl, fun _ => by kernel_rfl⟩
instance bu14 : BuildA Tryz.prog 14 [(0, 1), (1, 1)] := ⟨by kernel_rfl, by kernel_rfl⟩
instance fv14_0 : FieldT Tryz.prog 14 0 9 0 := ⟨by kernel_rfl, by kernel_rfl⟩
instance fv14_1 : FieldT Tryz.prog 14 1 12 1 := ⟨by kernel_rfl, by kernel_rfl⟩
instance fi14_0 : FieldA Tryz.prog 14 0 0 := ⟨fun _ _ _ => by kernel_rfl⟩
instance fi14_1 : FieldA Tryz.prog 14 1 1 := ⟨fun _ _ _ => by kernel_rfl⟩
instance ze14 : ZeroA Tryz.prog 14 (Value.agg #[Value.string ⟨#[]⟩, Value.int .u64 0]) := ⟨fun _ => by kernel_rfl⟩
instance in14 : InfoA Tryz.prog 14 (Value.agg #[Value.string ⟨#[]⟩, Value.int .u64 0]) 2 24 := ⟨by kernel_rfl⟩
instance ty15 : TyA Tryz.prog 15 false 1 := ⟨fun _ => by kernel_rfl, fun _ => by kernel_rfl⟩
instance un15 : Und Tryz.prog 15 (.pointer 266) := ⟨Tryz.underlying15⟩
instance ze15 : ZeroA Tryz.prog 15 (Value.pointer none) := ⟨fun _ => by kernel_rfl⟩
instance in15 : InfoA Tryz.prog 15 (Value.pointer none) 1 8 := ⟨by kernel_rfl⟩
instance ty16 : TyA Tryz.prog 16 false 1 := ⟨fun _ => by kernel_rfl, fun _ => by kernel_rfl⟩
instance un16 : Und Tryz.prog 16 (.pointer 269) := ⟨Tryz.underlying16⟩
instance ze16 : ZeroA Tryz.prog 16 (Value.pointer none) := ⟨fun _ => by kernel_rfl⟩
instance in16 : InfoA Tryz.prog 16 (Value.pointer none) 1 8 := ⟨by kernel_rfl⟩
instance ty17 : TyA Tryz.prog 17 false 1 := ⟨fun _ => by kernel_rfl, fun _ => by kernel_rfl⟩
instance un17 : Und Tryz.prog 17 (.pointer 277) := ⟨Tryz.underlying17⟩
instance ze17 : ZeroA Tryz.prog 17 (Value.pointer none) := ⟨fun _ => by kernel_rfl⟩
instance in17 : InfoA Tryz.prog 17 (Value.pointer none) 1 8 := ⟨by kernel_rfl⟩
instance ty18 : TyA Tryz.prog 18 true 1 := ⟨fun _ => by kernel_rfl, fun _ => by kernel_rfl⟩
instance bu18 : BuildA Tryz.prog 18 [(0, 1)] := ⟨by kernel_rfl, by kernel_rfl⟩
instance fv18_0 : FieldT Tryz.prog 18 0 17 0 := ⟨by kernel_rfl, by kernel_rfl⟩
instance fi18_0 : FieldA Tryz.prog 18 0 0 := ⟨fun _ _ _ => by kernel_rfl⟩
instance ze18 : ZeroA Tryz.prog 18 (Value.agg #[Value.pointer none]) := ⟨fun _ => by kernel_rfl⟩
instance in18 : InfoA Tryz.prog 18 (Value.agg #[Value.pointer none]) 1 8 := ⟨by kernel_rfl⟩
instance ty19 : TyA Tryz.prog 19 true 1 := ⟨fun _ => by kernel_rfl, fun _ => by kernel_rfl⟩
instance bu19 : BuildA Tryz.prog 19 [(0, 1)] := ⟨by kernel_rfl, by kernel_rfl⟩
instance fv19_0 : FieldT Tryz.prog 19 0 17 0 := ⟨by kernel_rfl, by kernel_rfl⟩
instance fi19_0 : FieldA Tryz.prog 19 0 0 := ⟨fun _ _ _ => by kernel_rfl⟩
instance ze19 : ZeroA Tryz.prog 19 (Value.agg #[Value.pointer none]) := ⟨fun _ => by kernel_rfl⟩
instance in19 : InfoA Tryz.prog 19 (Value.agg #[Value.pointer none]) 1 8 := ⟨by kernel_rfl⟩
instance ty21 : TyA Tryz.prog 21 false 1 := ⟨fun _ => by kernel_rfl, fun _ => by kernel_rfl⟩
instance un21 : Und Tryz.prog 21 (.int .i32) := ⟨Tryz.underlying21⟩
instance ze21 : ZeroA Tryz.prog 21 (Value.int .i32 0) := ⟨fun _ => by kernel_rfl⟩
instance in21 : InfoA Tryz.prog 21 (Value.int .i32 0) 1 4 := ⟨by kernel_rfl⟩
instance ty22 : TyA Tryz.prog 22 false 1 := ⟨fun _ => by kernel_rfl, fun _ => by kernel_rfl⟩
instance un22 : Und Tryz.prog 22 (.int .u64) := ⟨Tryz.underlying22⟩
instance ze22 : ZeroA Tryz.prog 22 (Value.int .u64 0) := ⟨fun _ => by kernel_rfl⟩
instance in22 : InfoA Tryz.prog 22 (Value.int .u64 0) 1 8 := ⟨by kernel_rfl⟩
instance ty23 : TyA Tryz.prog 23 true 4 := ⟨fun _ => by kernel_rfl, fun _ => by kernel_rfl⟩
instance bu23 : BuildA Tryz.prog 23 [(0, 1), (1, 1), (2, 1), (3, 1)] := ⟨by kernel_rfl, by kernel_rfl⟩
instance eq23 : EqA Tryz.prog 23 4 := ⟨by kernel_rfl, by kernel_rfl, by kernel_rfl, by kernel_rfl, by kernel_rfl⟩
instance fv23_0 : FieldT Tryz.prog 23 0 3 0 := ⟨by kernel_rfl, by kernel_rfl⟩
instance fv23_1 : FieldT Tryz.prog 23 1 3 1 := ⟨by kernel_rfl, by kernel_rfl⟩
instance fv23_2 : FieldT Tryz.prog 23 2 3 2 := ⟨by kernel_rfl, by kernel_rfl⟩
instance fv23_3 : FieldT Tryz.prog 23 3 22 3 := ⟨by kernel_rfl, by kernel_rfl⟩
instance fi23_0 : FieldA Tryz.prog 23 0 0 := ⟨fun _ _ _ => by kernel_rfl⟩
instance fi23_1 : FieldA Tryz.prog 23 1 1 := ⟨fun _ _ _ => by kernel_rfl⟩
instance fi23_2 : FieldA Tryz.prog 23 2 2 := ⟨fun _ _ _ => by kernel_rfl⟩
instance fi23_3 : FieldA Tryz.prog 23 3 3 := ⟨fun _ _ _ => by kernel_rfl⟩
instance ze23 : ZeroA Tryz.prog 23 (Value.agg #[Value.int .i64 0, Value.int .i64 0, Value.int .i64 0, Value.int .u64 0]) := ⟨fun _ => by kernel_rfl⟩
instance in23 : InfoA Tryz.prog 23 (Value.agg #[Value.int .i64 0, Value.int .i64 0, Value.int .i64 0, Value.int .u64 0]) 4 32 := ⟨by kernel_rfl⟩
instance ty24 : TyA Tryz.prog 24 true 4 := ⟨fun _ => by kernel_rfl, fun _ => by kernel_rfl⟩
instance bu24 : BuildA Tryz.prog 24 [(0, 1), (1, 1), (2, 1), (3, 1)] := ⟨by kernel_rfl, by kernel_rfl⟩
instance eq24 : EqA Tryz.prog 24 4 := ⟨by kernel_rfl, by kernel_rfl, by kernel_rfl, by kernel_rfl, by kernel_rfl⟩
instance fv24_0 : FieldT Tryz.prog 24 0 3 0 := ⟨by kernel_rfl, by kernel_rfl⟩
instance fv24_1 : FieldT Tryz.prog 24 1 3 1 := ⟨by kernel_rfl, by kernel_rfl⟩
instance fv24_2 : FieldT Tryz.prog 24 2 3 2 := ⟨by kernel_rfl, by kernel_rfl⟩
instance fv24_3 : FieldT Tryz.prog 24 3 22 3 := ⟨by kernel_rfl, by kernel_rfl⟩
instance fi24_0 : FieldA Tryz.prog 24 0 0 := ⟨fun _ _ _ => by kernel_rfl⟩
instance fi24_1 : FieldA Tryz.prog 24 1 1 := ⟨fun _ _ _ => by kernel_rfl⟩
instance fi24_2 : FieldA Tryz.prog 24 2 2 := ⟨fun _ _ _ => by kernel_rfl⟩
instance fi24_3 : FieldA Tryz.prog 24 3 3 := ⟨fun _ _ _ => by kernel_rfl⟩
instance ze24 : ZeroA Tryz.prog 24 (Value.agg #[Value.int .i64 0, Value.int .i64 0, Value.int .i64 0, Value.int .u64 0]) := ⟨fun _ => by kernel_rfl⟩
instance in24 : InfoA Tryz.prog 24 (Value.agg #[Value.int .i64 0, Value.int .i64 0, Value.int .i64 0, Value.int .u64 0]) 4 32 := ⟨by kernel_rfl⟩
instance ty25 : TyA Tryz.prog 25 false 1 := ⟨fun _ => by kernel_rfl, fun _ => by kernel_rfl⟩
instance un25 : Und Tryz.prog 25 (.slice 125) := ⟨Tryz.underlying25⟩
instance ze25 : ZeroA Tryz.prog 25 (Value.slice none 0 0) := ⟨fun _ => by kernel_rfl⟩
instance in25 : InfoA Tryz.prog 25 (Value.slice none 0 0) 1 24 := ⟨by kernel_rfl⟩
instance ty26 : TyA Tryz.prog 26 true 8 := ⟨fun _ => by kernel_rfl, fun _ => by kernel_rfl⟩
instance bu26 : BuildA Tryz.prog 26 [(0, 1), (1, 1), (2, 1), (3, 4), (7, 1)] := ⟨by kernel_rfl, by kernel_rfl⟩
instance fv26_0 : FieldT Tryz.prog 26 0 3 0 := ⟨by kernel_rfl, by kernel_rfl⟩
instance fv26_1 : FieldT Tryz.prog 26 1 3 1 := ⟨by kernel_rfl, by kernel_rfl⟩
instance fv26_2 : FieldT Tryz.prog 26 2 3 2 := ⟨by kernel_rfl, by kernel_rfl⟩
instance fv26_3 : FieldT Tryz.prog 26 3 24 3 := ⟨by kernel_rfl, by kernel_rfl⟩
instance fv26_4 : FieldT Tryz.prog 26 4 25 7 := ⟨by kernel_rfl, by kernel_rfl⟩
instance fi26_0 : FieldA Tryz.prog 26 0 0 := ⟨fun _ _ _ => by kernel_rfl⟩
instance fi26_1 : FieldA Tryz.prog 26 1 1 := ⟨fun _ _ _ => by kernel_rfl⟩
instance fi26_2 : FieldA Tryz.prog 26 2 2 := ⟨fun _ _ _ => by kernel_rfl⟩
instance fi26_3 : FieldA Tryz.prog 26 3 3 := ⟨fun _ _ _ => by kernel_rfl⟩
instance fi26_4 : FieldA Tryz.prog 26 4 7 := ⟨fun _ _ _ => by kernel_rfl⟩
instance ze26 : ZeroA Tryz.prog 26 (Value.agg #[Value.int .i64 0, Value.int .i64 0, Value.int .i64 0, Value.int .i64 0, Value.int .i64 0, Value.int .i64 0, Value.int .u64 0, Value.slice none 0 0]) := ⟨fun _ => by kernel_rfl⟩
instance in26 : InfoA Tryz.prog 26 (Value.agg #[Value.int .i64 0, Value.int .i64 0, Value.int .i64 0, Value.int .i64 0, Value.int .i64 0, Value.int .i64 0, Value.int .u64 0, Value.slice none 0 0]) 8 80 := ⟨by kernel_rfl⟩
instance ty27 : TyA Tryz.prog 27 true 8 := ⟨fun _ => by kernel_rfl, fun _ => by kernel_rfl⟩
instance bu27 : BuildA Tryz.prog 27 [(0, 1), (1, 1), (2, 1), (3, 4), (7, 1)] := ⟨by kernel_rfl, by kernel_rfl⟩
instance fv27_0 : FieldT Tryz.prog 27 0 3 0 := ⟨by kernel_rfl, by kernel_rfl⟩
instance fv27_1 : FieldT Tryz.prog 27 1 3 1 := ⟨by kernel_rfl, by kernel_rfl⟩
instance fv27_2 : FieldT Tryz.prog 27 2 3 2 := ⟨by kernel_rfl, by kernel_rfl⟩
instance fv27_3 : FieldT Tryz.prog 27 3 24 3 := ⟨by kernel_rfl, by kernel_rfl⟩
instance fv27_4 : FieldT Tryz.prog 27 4 25 7 := ⟨by kernel_rfl, by kernel_rfl⟩
instance fi27_0 : FieldA Tryz.prog 27 0 0 := ⟨fun _ _ _ => by kernel_rfl⟩
instance fi27_1 : FieldA Tryz.prog 27 1 1 := ⟨fun _ _ _ => by kernel_rfl⟩
instance fi27_2 : FieldA Tryz.prog 27 2 2 := ⟨fun _ _ _ => by kernel_rfl⟩
instance fi27_3 : FieldA Tryz.prog 27 3 3 := ⟨fun _ _ _ => by kernel_rfl⟩
instance fi27_4 : FieldA Tryz.prog 27 4 7 := ⟨fun _ _ _ => by kernel_rfl⟩
instance ze27 : ZeroA Tryz.prog 27 (Value.agg #[Value.int .i64 0, Value.int .i64 0, Value.int .i64 0, Value.int .i64 0, Value.int .i64 0, Value.int .i64 0, Value.int .u64 0, Value.slice none 0 0]) := ⟨fun _ => by kernel_rfl⟩
instance in27 : InfoA Tryz.prog 27 (Value.agg #[Value.int .i64 0, Value.int .i64 0, Value.int .i64 0, Value.int .i64 0, Value.int .i64 0, Value.int .i64 0, Value.int .u64 0, Value.slice none 0 0]) 8 80 := ⟨by kernel_rfl⟩
instance ty31 : TyA Tryz.prog 31 false 1 := ⟨fun _ => by kernel_rfl, fun _ => by kernel_rfl⟩
instance un31 : Und Tryz.prog 31 (.slice 5) := ⟨Tryz.underlying31⟩
instance ze31 : ZeroA Tryz.prog 31 (Value.slice none 0 0) := ⟨fun _ => by kernel_rfl⟩
instance in31 : InfoA Tryz.prog 31 (Value.slice none 0 0) 1 24 := ⟨by kernel_rfl⟩
instance ty32 : TyA Tryz.prog 32 false 1 := ⟨fun _ => by kernel_rfl, fun _ => by kernel_rfl⟩
instance un32 : Und Tryz.prog 32 (.slice 22) := ⟨Tryz.underlying32⟩
instance ze32 : ZeroA Tryz.prog 32 (Value.slice none 0 0) := ⟨fun _ => by kernel_rfl⟩
instance in32 : InfoA Tryz.prog 32 (Value.slice none 0 0) 1 24 := ⟨by kernel_rfl⟩
instance ty33 : TyA Tryz.prog 33 true 6 := ⟨fun _ => by kernel_rfl, fun _ => by kernel_rfl⟩
instance bu33 : BuildA Tryz.prog 33 [(0, 1), (1, 1), (2, 1), (3, 1), (4, 1), (5, 1)] := ⟨by kernel_rfl, by kernel_rfl⟩
instance fv33_0 : FieldT Tryz.prog 33 0 3 0 := ⟨by kernel_rfl, by kernel_rfl⟩
instance fv33_1 : FieldT Tryz.prog 33 1 3 1 := ⟨by kernel_rfl, by kernel_rfl⟩
instance fv33_2 : FieldT Tryz.prog 33 2 22 2 := ⟨by kernel_rfl, by kernel_rfl⟩
instance fv33_3 : FieldT Tryz.prog 33 3 22 3 := ⟨by kernel_rfl, by kernel_rfl⟩
instance fv33_4 : FieldT Tryz.prog 33 4 31 4 := ⟨by kernel_rfl, by kernel_rfl⟩
instance fv33_5 : FieldT Tryz.prog 33 5 32 5 := ⟨by kernel_rfl, by kernel_rfl⟩
instance fi33_0 : FieldA Tryz.prog 33 0 0 := ⟨fun _ _ _ => by kernel_rfl⟩
instance fi33_1 : FieldA Tryz.prog 33 1 1 := ⟨fun _ _ _ => by kernel_rfl⟩
instance fi33_2 : FieldA Tryz.prog 33 2 2 := ⟨fun _ _ _ => by kernel_rfl⟩
instance fi33_3 : FieldA Tryz.prog 33 3 3 := ⟨fun _ _ _ => by kernel_rfl⟩
instance fi33_4 : FieldA Tryz.prog 33 4 4 := ⟨fun _ _ _ => by kernel_rfl⟩
instance fi33_5 : FieldA Tryz.prog 33 5 5 := ⟨fun _ _ _ => by kernel_rfl⟩
instance ze33 : ZeroA Tryz.prog 33 (Value.agg #[Value.int .i64 0, Value.int .i64 0, Value.int .u64 0, Value.int .u64 0, Value.slice none 0 0, Value.slice none 0 0]) := ⟨fun _ => by kernel_rfl⟩
instance in33 : InfoA Tryz.prog 33 (Value.agg #[Value.int .i64 0, Value.int .i64 0, Value.int .u64 0, Value.int .u64 0, Value.slice none 0 0, Value.slice none 0 0]) 6 80 := ⟨by kernel_rfl⟩
instance ty34 : TyA Tryz.prog 34 true 6 := ⟨fun _ => by kernel_rfl, fun _ => by kernel_rfl⟩
instance bu34 : BuildA Tryz.prog 34 [(0, 1), (1, 1), (2, 1), (3, 1), (4, 1), (5, 1)] := ⟨by kernel_rfl, by kernel_rfl⟩
instance fv34_0 : FieldT Tryz.prog 34 0 3 0 := ⟨by kernel_rfl, by kernel_rfl⟩
instance fv34_1 : FieldT Tryz.prog 34 1 3 1 := ⟨by kernel_rfl, by kernel_rfl⟩
instance fv34_2 : FieldT Tryz.prog 34 2 22 2 := ⟨by kernel_rfl, by kernel_rfl⟩
instance fv34_3 : FieldT Tryz.prog 34 3 22 3 := ⟨by kernel_rfl, by kernel_rfl⟩
instance fv34_4 : FieldT Tryz.prog 34 4 31 4 := ⟨by kernel_rfl, by kernel_rfl⟩
instance fv34_5 : FieldT Tryz.prog 34 5 32 5 := ⟨by kernel_rfl, by kernel_rfl⟩
instance fi34_0 : FieldA Tryz.prog 34 0 0 := ⟨fun _ _ _ => by kernel_rfl⟩
instance fi34_1 : FieldA Tryz.prog 34 1 1 := ⟨fun _ _ _ => by kernel_rfl⟩
instance fi34_2 : FieldA Tryz.prog 34 2 2 := ⟨fun _ _ _ => by kernel_rfl⟩
instance fi34_3 : FieldA Tryz.prog 34 3 3 := ⟨fun _ _ _ => by kernel_rfl⟩
instance fi34_4 : FieldA Tryz.prog 34 4 4 := ⟨fun _ _ _ => by kernel_rfl⟩
instance fi34_5 : FieldA Tryz.prog 34 5 5 := ⟨fun _ _ _ => by kernel_rfl⟩
instance ze34 : ZeroA Tryz.prog 34 (Value.agg #[Value.int .i64 0, Value.int .i64 0, Value.int .u64 0, Value.int .u64 0, Value.slice none 0 0, Value.slice none 0 0]) := ⟨fun _ => by kernel_rfl⟩
instance in34 : InfoA Tryz.prog 34 (Value.agg #[Value.int .i64 0, Value.int .i64 0, Value.int .u64 0, Value.int .u64 0, Value.slice none 0 0, Value.slice none 0 0]) 6 80 := ⟨by kernel_rfl⟩
instance ty35 : TyA Tryz.prog 35 false 1 := ⟨fun _ => by kernel_rfl, fun _ => by kernel_rfl⟩
instance un35 : Und Tryz.prog 35 (.int .i64) := ⟨Tryz.underlying35⟩
instance ze35 : ZeroA Tryz.prog 35 (Value.int .i64 0) := ⟨fun _ => by kernel_rfl⟩
instance in35 : InfoA Tryz.prog 35 (Value.int .i64 0) 1 8 := ⟨by kernel_rfl⟩
instance ty36 : TyA Tryz.prog 36 false 1 := ⟨fun _ => by kernel_rfl, fun _ => by kernel_rfl⟩
instance un36 : Und Tryz.prog 36 (.slice 3) := ⟨Tryz.underlying36⟩
instance ze36 : ZeroA Tryz.prog 36 (Value.slice none 0 0) := ⟨fun _ => by kernel_rfl⟩
instance in36 : InfoA Tryz.prog 36 (Value.slice none 0 0) 1 24 := ⟨by kernel_rfl⟩
instance ty37 : TyA Tryz.prog 37 true 5 := ⟨fun _ => by kernel_rfl, fun _ => by kernel_rfl⟩
instance bu37 : BuildA Tryz.prog 37 [(0, 1), (1, 1), (2, 1), (3, 1), (4, 1)] := ⟨by kernel_rfl, by kernel_rfl⟩
instance fv37_0 : FieldT Tryz.prog 37 0 35 0 := ⟨by kernel_rfl, by kernel_rfl⟩
instance fv37_1 : FieldT Tryz.prog 37 1 4 1 := ⟨by kernel_rfl, by kernel_rfl⟩
instance fv37_2 : FieldT Tryz.prog 37 2 3 2 := ⟨by kernel_rfl, by kernel_rfl⟩
instance fv37_3 : FieldT Tryz.prog 37 3 22 3 := ⟨by kernel_rfl, by kernel_rfl⟩
instance fv37_4 : FieldT Tryz.prog 37 4 36 4 := ⟨by kernel_rfl, by kernel_rfl⟩
instance fi37_0 : FieldA Tryz.prog 37 0 0 := ⟨fun _ _ _ => by kernel_rfl⟩
instance fi37_1 : FieldA Tryz.prog 37 1 1 := ⟨fun _ _ _ => by kernel_rfl⟩
instance fi37_2 : FieldA Tryz.prog 37 2 2 := ⟨fun _ _ _ => by kernel_rfl⟩
instance fi37_3 : FieldA Tryz.prog 37 3 3 := ⟨fun _ _ _ => by kernel_rfl⟩
instance fi37_4 : FieldA Tryz.prog 37 4 4 := ⟨fun _ _ _ => by kernel_rfl⟩
instance ze37 : ZeroA Tryz.prog 37 (Value.agg #[Value.int .i64 0, Value.bool false, Value.int .i64 0, Value.int .u64 0, Value.slice none 0 0]) := ⟨fun _ => by kernel_rfl⟩
instance in37 : InfoA Tryz.prog 37 (Value.agg #[Value.int .i64 0, Value.bool false, Value.int .i64 0, Value.int .u64 0, Value.slice none 0 0]) 5 56 := ⟨by kernel_rfl⟩
instance ty38 : TyA Tryz.prog 38 true 5 := ⟨fun _ => by kernel_rfl, fun _ => by kernel_rfl⟩
instance bu38 : BuildA Tryz.prog 38 [(0, 1), (1, 1), (2, 1), (3, 1), (4, 1)] := ⟨by kernel_rfl, by kernel_rfl⟩
instance fv38_0 : FieldT Tryz.prog 38 0 35 0 := ⟨by kernel_rfl, by kernel_rfl⟩
instance fv38_1 : FieldT Tryz.prog 38 1 4 1 := ⟨by kernel_rfl, by kernel_rfl⟩
instance fv38_2 : FieldT Tryz.prog 38 2 3 2 := ⟨by kernel_rfl, by kernel_rfl⟩
instance fv38_3 : FieldT Tryz.prog 38 3 22 3 := ⟨by kernel_rfl, by kernel_rfl⟩
instance fv38_4 : FieldT Tryz.prog 38 4 36 4 := ⟨by kernel_rfl, by kernel_rfl⟩
instance fi38_0 : FieldA Tryz.prog 38 0 0 := ⟨fun _ _ _ => by kernel_rfl⟩
instance fi38_1 : FieldA Tryz.prog 38 1 1 := ⟨fun _ _ _ => by kernel_rfl⟩
instance fi38_2 : FieldA Tryz.prog 38 2 2 := ⟨fun _ _ _ => by kernel_rfl⟩
instance fi38_3 : FieldA Tryz.prog 38 3 3 := ⟨fun _ _ _ => by kernel_rfl⟩
instance fi38_4 : FieldA Tryz.prog 38 4 4 := ⟨fun _ _ _ => by kernel_rfl⟩
instance ze38 : ZeroA Tryz.prog 38 (Value.agg #[Value.int .i64 0, Value.bool false, Value.int .i64 0, Value.int .u64 0, Value.slice none 0 0]) := ⟨fun _ => by kernel_rfl⟩
instance in38 : InfoA Tryz.prog 38 (Value.agg #[Value.int .i64 0, Value.bool false, Value.int .i64 0, Value.int .u64 0, Value.slice none 0 0]) 5 56 := ⟨by kernel_rfl⟩
instance ty45 : TyA Tryz.prog 45 true 8 := ⟨fun _ => by kernel_rfl, fun _ => by kernel_rfl⟩
instance bu45 : BuildA Tryz.prog 45 [(0, 1), (1, 1), (2, 1), (3, 4), (7, 1)] := ⟨by kernel_rfl, by kernel_rfl⟩
instance fv45_0 : FieldT Tryz.prog 45 0 3 0 := ⟨by kernel_rfl, by kernel_rfl⟩
instance fv45_1 : FieldT Tryz.prog 45 1 3 1 := ⟨by kernel_rfl, by kernel_rfl⟩
instance fv45_2 : FieldT Tryz.prog 45 2 3 2 := ⟨by kernel_rfl, by kernel_rfl⟩
instance fv45_3 : FieldT Tryz.prog 45 3 24 3 := ⟨by kernel_rfl, by kernel_rfl⟩
instance fv45_4 : FieldT Tryz.prog 45 4 25 7 := ⟨by kernel_rfl, by kernel_rfl⟩
instance fi45_0 : FieldA Tryz.prog 45 0 0 := ⟨fun _ _ _ => by kernel_rfl⟩
instance fi45_1 : FieldA Tryz.prog 45 1 1 := ⟨fun _ _ _ => by kernel_rfl⟩
instance fi45_2 : FieldA Tryz.prog 45 2 2 := ⟨fun _ _ _ => by kernel_rfl⟩
instance fi45_3 : FieldA Tryz.prog 45 3 3 := ⟨fun _ _ _ => by kernel_rfl⟩
instance fi45_4 : FieldA Tryz.prog 45 4 7 := ⟨fun _ _ _ => by kernel_rfl⟩
instance ze45 : ZeroA Tryz.prog 45 (Value.agg #[Value.int .i64 0, Value.int .i64 0, Value.int .i64 0, Value.int .i64 0, Value.int .i64 0, Value.int .i64 0, Value.int .u64 0, Value.slice none 0 0]) := ⟨fun _ => by kernel_rfl⟩
instance in45 : InfoA Tryz.prog 45 (Value.agg #[Value.int .i64 0, Value.int .i64 0, Value.int .i64 0, Value.int .i64 0, Value.int .i64 0, Value.int .i64 0, Value.int .u64 0, Value.slice none 0 0]) 8 80 := ⟨by kernel_rfl⟩
instance ty48 : TyA Tryz.prog 48 true 8 := ⟨fun _ => by kernel_rfl, fun _ => by kernel_rfl⟩
instance bu48 : BuildA Tryz.prog 48 [(0, 1), (1, 1), (2, 1), (3, 4), (7, 1)] := ⟨by kernel_rfl, by kernel_rfl⟩
instance fv48_0 : FieldT Tryz.prog 48 0 3 0 := ⟨by kernel_rfl, by kernel_rfl⟩
instance fv48_1 : FieldT Tryz.prog 48 1 3 1 := ⟨by kernel_rfl, by kernel_rfl⟩
instance fv48_2 : FieldT Tryz.prog 48 2 3 2 := ⟨by kernel_rfl, by kernel_rfl⟩
instance fv48_3 : FieldT Tryz.prog 48 3 24 3 := ⟨by kernel_rfl, by kernel_rfl⟩
instance fv48_4 : FieldT Tryz.prog 48 4 25 7 := ⟨by kernel_rfl, by kernel_rfl⟩
instance fi48_0 : FieldA Tryz.prog 48 0 0 := ⟨fun _ _ _ => by kernel_rfl⟩
instance fi48_1 : FieldA Tryz.prog 48 1 1 := ⟨fun _ _ _ => by kernel_rfl⟩
instance fi48_2 : FieldA Tryz.prog 48 2 2 := ⟨fun _ _ _ => by kernel_rfl⟩
instance fi48_3 : FieldA Tryz.prog 48 3 3 := ⟨fun _ _ _ => by kernel_rfl⟩
instance fi48_4 : FieldA Tryz.prog 48 4 7 := ⟨fun _ _ _ => by kernel_rfl⟩
instance ze48 : ZeroA Tryz.prog 48 (Value.agg #[Value.int .i64 0, Value.int .i64 0, Value.int .i64 0, Value.int .i64 0, Value.int .i64 0, Value.int .i64 0, Value.int .u64 0, Value.slice none 0 0]) := ⟨fun _ => by kernel_rfl⟩
instance in48 : InfoA Tryz.prog 48 (Value.agg #[Value.int .i64 0, Value.int .i64 0, Value.int .i64 0, Value.int .i64 0, Value.int .i64 0, Value.int .i64 0, Value.int .u64 0, Value.slice none 0 0]) 8 80 := ⟨by kernel_rfl⟩
instance ty50 : TyA Tryz.prog 50 true 8 := ⟨fun _ => by kernel_rfl, fun _ => by kernel_rfl⟩
instance bu50 : BuildA Tryz.prog 50 [(0, 1), (1, 1), (2, 1), (3, 4), (7, 1)] := ⟨by kernel_rfl, by kernel_rfl⟩
instance fv50_0 : FieldT Tryz.prog 50 0 3 0 := ⟨by kernel_rfl, by kernel_rfl⟩
instance fv50_1 : FieldT Tryz.prog 50 1 3 1 := ⟨by kernel_rfl, by kernel_rfl⟩
instance fv50_2 : FieldT Tryz.prog 50 2 3 2 := ⟨by kernel_rfl, by kernel_rfl⟩
instance fv50_3 : FieldT Tryz.prog 50 3 24 3 := ⟨by kernel_rfl, by kernel_rfl⟩
instance fv50_4 : FieldT Tryz.prog 50 4 25 7 := ⟨by kernel_rfl, by kernel_rfl⟩
instance fi50_0 : FieldA Tryz.prog 50 0 0 := ⟨fun _ _ _ => by kernel_rfl⟩
instance fi50_1 : FieldA Tryz.prog 50 1 1 := ⟨fun _ _ _ => by kernel_rfl⟩
instance fi50_2 : FieldA Tryz.prog 50 2 2 := ⟨fun _ _ _ => by kernel_rfl⟩
instance fi50_3 : FieldA Tryz.prog 50 3 3 := ⟨fun _ _ _ => by kernel_rfl⟩
instance fi50_4 : FieldA Tryz.prog 50 4 7 := ⟨fun _ _ _ => by kernel_rfl⟩
instance ze50 : ZeroA Tryz.prog 50 (Value.agg #[Value.int .i64 0, Value.int .i64 0, Value.int .i64 0, Value.int .i64 0, Value.int .i64 0, Value.int .i64 0, Value.int .u64 0, Value.slice none 0 0]) := ⟨fun _ => by kernel_rfl⟩
instance in50 : InfoA Tryz.prog 50 (Value.agg #[Value.int .i64 0, Value.int .i64 0, Value.int .i64 0, Value.int .i64 0, Value.int .i64 0, Value.int .i64 0, Value.int .u64 0, Value.slice none 0 0]) 8 80 := ⟨by kernel_rfl⟩
instance ty52 : TyA Tryz.prog 52 true 3 := ⟨fun _ => by kernel_rfl, fun _ => by kernel_rfl⟩
instance bu52 : BuildA Tryz.prog 52 [(0, 1), (1, 1), (2, 1)] := ⟨by kernel_rfl, by kernel_rfl⟩
instance fv52_0 : FieldT Tryz.prog 52 0 3 0 := ⟨by kernel_rfl, by kernel_rfl⟩
instance fv52_1 : FieldT Tryz.prog 52 1 3 1 := ⟨by kernel_rfl, by kernel_rfl⟩
instance fv52_2 : FieldT Tryz.prog 52 2 32 2 := ⟨by kernel_rfl, by kernel_rfl⟩
instance fi52_0 : FieldA Tryz.prog 52 0 0 := ⟨fun _ _ _ => by kernel_rfl⟩
instance fi52_1 : FieldA Tryz.prog 52 1 1 := ⟨fun _ _ _ => by kernel_rfl⟩
instance fi52_2 : FieldA Tryz.prog 52 2 2 := ⟨fun _ _ _ => by kernel_rfl⟩
instance ze52 : ZeroA Tryz.prog 52 (Value.agg #[Value.int .i64 0, Value.int .i64 0, Value.slice none 0 0]) := ⟨fun _ => by kernel_rfl⟩
instance in52 : InfoA Tryz.prog 52 (Value.agg #[Value.int .i64 0, Value.int .i64 0, Value.slice none 0 0]) 3 40 := ⟨by kernel_rfl⟩
instance ty53 : TyA Tryz.prog 53 true 3 := ⟨fun _ => by kernel_rfl, fun _ => by kernel_rfl⟩
instance bu53 : BuildA Tryz.prog 53 [(0, 1), (1, 1), (2, 1)] := ⟨by kernel_rfl, by kernel_rfl⟩
instance fv53_0 : FieldT Tryz.prog 53 0 3 0 := ⟨by kernel_rfl, by kernel_rfl⟩
instance fv53_1 : FieldT Tryz.prog 53 1 3 1 := ⟨by kernel_rfl, by kernel_rfl⟩
instance fv53_2 : FieldT Tryz.prog 53 2 32 2 := ⟨by kernel_rfl, by kernel_rfl⟩
instance fi53_0 : FieldA Tryz.prog 53 0 0 := ⟨fun _ _ _ => by kernel_rfl⟩
instance fi53_1 : FieldA Tryz.prog 53 1 1 := ⟨fun _ _ _ => by kernel_rfl⟩
instance fi53_2 : FieldA Tryz.prog 53 2 2 := ⟨fun _ _ _ => by kernel_rfl⟩
instance ze53 : ZeroA Tryz.prog 53 (Value.agg #[Value.int .i64 0, Value.int .i64 0, Value.slice none 0 0]) := ⟨fun _ => by kernel_rfl⟩
instance in53 : InfoA Tryz.prog 53 (Value.agg #[Value.int .i64 0, Value.int .i64 0, Value.slice none 0 0]) 3 40 := ⟨by kernel_rfl⟩
instance ty54 : TyA Tryz.prog 54 false 1 := ⟨fun _ => by kernel_rfl, fun _ => by kernel_rfl⟩
instance un54 : Und Tryz.prog 54 (.slice 236) := ⟨Tryz.underlying54⟩
instance ze54 : ZeroA Tryz.prog 54 (Value.slice none 0 0) := ⟨fun _ => by kernel_rfl⟩
instance in54 : InfoA Tryz.prog 54 (Value.slice none 0 0) 1 24 := ⟨by kernel_rfl⟩
instance ty55 : TyA Tryz.prog 55 true 2 := ⟨fun _ => by kernel_rfl, fun _ => by kernel_rfl⟩
instance un55 : Und Tryz.prog 55 (.array 2 54) := ⟨Tryz.underlying55⟩
instance ze55 : ZeroA Tryz.prog 55 (Value.agg #[Value.slice none 0 0, Value.slice none 0 0]) := ⟨fun _ => by kernel_rfl⟩
instance in55 : InfoA Tryz.prog 55 (Value.agg #[Value.slice none 0 0, Value.slice none 0 0]) 2 48 := ⟨by kernel_rfl⟩
instance ty56 : TyA Tryz.prog 56 true 3 := ⟨fun _ => by kernel_rfl, fun _ => by kernel_rfl⟩
instance bu56 : BuildA Tryz.prog 56 [(0, 1), (1, 2)] := ⟨by kernel_rfl, by kernel_rfl⟩
instance fv56_0 : FieldT Tryz.prog 56 0 22 0 := ⟨by kernel_rfl, by kernel_rfl⟩
instance fv56_1 : FieldT Tryz.prog 56 1 55 1 := ⟨by kernel_rfl, by kernel_rfl⟩
instance fi56_0 : FieldA Tryz.prog 56 0 0 := ⟨fun _ _ _ => by kernel_rfl⟩
instance fi56_1 : FieldA Tryz.prog 56 1 1 := ⟨fun _ _ _ => by kernel_rfl⟩
instance ze56 : ZeroA Tryz.prog 56 (Value.agg #[Value.int .u64 0, Value.slice none 0 0, Value.slice none 0 0]) := ⟨fun _ => by kernel_rfl⟩
instance in56 : InfoA Tryz.prog 56 (Value.agg #[Value.int .u64 0, Value.slice none 0 0, Value.slice none 0 0]) 3 56 := ⟨by kernel_rfl⟩
instance ty57 : TyA Tryz.prog 57 true 3 := ⟨fun _ => by kernel_rfl, fun _ => by kernel_rfl⟩
instance bu57 : BuildA Tryz.prog 57 [(0, 1), (1, 2)] := ⟨by kernel_rfl, by kernel_rfl⟩
instance fv57_0 : FieldT Tryz.prog 57 0 22 0 := ⟨by kernel_rfl, by kernel_rfl⟩
instance fv57_1 : FieldT Tryz.prog 57 1 55 1 := ⟨by kernel_rfl, by kernel_rfl⟩
instance fi57_0 : FieldA Tryz.prog 57 0 0 := ⟨fun _ _ _ => by kernel_rfl⟩
instance fi57_1 : FieldA Tryz.prog 57 1 1 := ⟨fun _ _ _ => by kernel_rfl⟩
instance ze57 : ZeroA Tryz.prog 57 (Value.agg #[Value.int .u64 0, Value.slice none 0 0, Value.slice none 0 0]) := ⟨fun _ => by kernel_rfl⟩
instance in57 : InfoA Tryz.prog 57 (Value.agg #[Value.int .u64 0, Value.slice none 0 0, Value.slice none 0 0]) 3 56 := ⟨by kernel_rfl⟩
instance ty58 : TyA Tryz.prog 58 true 6 := ⟨fun _ => by kernel_rfl, fun _ => by kernel_rfl⟩
instance bu58 : BuildA Tryz.prog 58 [(0, 3), (3, 3)] := ⟨by kernel_rfl, by kernel_rfl⟩
instance fv58_0 : FieldT Tryz.prog 58 0 53 0 := ⟨by kernel_rfl, by kernel_rfl⟩
instance fv58_1 : FieldT Tryz.prog 58 1 57 3 := ⟨by kernel_rfl, by kernel_rfl⟩
instance fi58_0 : FieldA Tryz.prog 58 0 0 := ⟨fun _ _ _ => by kernel_rfl⟩
instance fi58_1 : FieldA Tryz.prog 58 1 3 := ⟨fun _ _ _ => by kernel_rfl⟩
instance ze58 : ZeroA Tryz.prog 58 (Value.agg #[Value.int .i64 0, Value.int .i64 0, Value.slice none 0 0, Value.int .u64 0, Value.slice none 0 0, Value.slice none 0 0]) := ⟨fun _ => by kernel_rfl⟩
instance in58 : InfoA Tryz.prog 58 (Value.agg #[Value.int .i64 0, Value.int .i64 0, Value.slice none 0 0, Value.int .u64 0, Value.slice none 0 0, Value.slice none 0 0]) 6 96 := ⟨by kernel_rfl⟩
instance ty59 : TyA Tryz.prog 59 true 6 := ⟨fun _ => by kernel_rfl, fun _ => by kernel_rfl⟩
instance bu59 : BuildA Tryz.prog 59 [(0, 3), (3, 3)] := ⟨by kernel_rfl, by kernel_rfl⟩
instance fv59_0 : FieldT Tryz.prog 59 0 53 0 := ⟨by kernel_rfl, by kernel_rfl⟩
instance fv59_1 : FieldT Tryz.prog 59 1 57 3 := ⟨by kernel_rfl, by kernel_rfl⟩
instance fi59_0 : FieldA Tryz.prog 59 0 0 := ⟨fun _ _ _ => by kernel_rfl⟩
instance fi59_1 : FieldA Tryz.prog 59 1 3 := ⟨fun _ _ _ => by kernel_rfl⟩
instance ze59 : ZeroA Tryz.prog 59 (Value.agg #[Value.int .i64 0, Value.int .i64 0, Value.slice none 0 0, Value.int .u64 0, Value.slice none 0 0, Value.slice none 0 0]) := ⟨fun _ => by kernel_rfl⟩
instance in59 : InfoA Tryz.prog 59 (Value.agg #[Value.int .i64 0, Value.int .i64 0, Value.slice none 0 0, Value.int .u64 0, Value.slice none 0 0, Value.slice none 0 0]) 6 96 := ⟨by kernel_rfl⟩
instance ty66 : TyA Tryz.prog 66 false 1 := ⟨fun _ => by kernel_rfl, fun _ => by kernel_rfl⟩
instance ze66 : ZeroA Tryz.prog 66 (Value.nilFunc) := ⟨fun _ => by kernel_rfl⟩
instance in66 : InfoA Tryz.prog 66 (Value.nilFunc) 1 8 := ⟨by kernel_rfl⟩
instance ty75 : TyA Tryz.prog 75 true 9 := ⟨fun _ => by kernel_rfl, fun _ => by kernel_rfl⟩
instance bu75 : BuildA Tryz.prog 75 [(0, 1), (1, 1), (2, 1), (3, 6)] := ⟨by kernel_rfl, by kernel_rfl⟩
instance fv75_0 : FieldT Tryz.prog 75 0 25 0 := ⟨by kernel_rfl, by kernel_rfl⟩
instance fv75_1 : FieldT Tryz.prog 75 1 3 1 := ⟨by kernel_rfl, by kernel_rfl⟩
instance fv75_2 : FieldT Tryz.prog 75 2 4 2 := ⟨by kernel_rfl, by kernel_rfl⟩
instance fv75_3 : FieldT Tryz.prog 75 3 34 3 := ⟨by kernel_rfl, by kernel_rfl⟩
instance fi75_0 : FieldA Tryz.prog 75 0 0 := ⟨fun _ _ _ => by kernel_rfl⟩
instance fi75_1 : FieldA Tryz.prog 75 1 1 := ⟨fun _ _ _ => by kernel_rfl⟩
instance fi75_2 : FieldA Tryz.prog 75 2 2 := ⟨fun _ _ _ => by kernel_rfl⟩
instance fi75_3 : FieldA Tryz.prog 75 3 3 := ⟨fun _ _ _ => by kernel_rfl⟩
instance ze75 : ZeroA Tryz.prog 75 (Value.agg #[Value.slice none 0 0, Value.int .i64 0, Value.bool false, Value.int .i64 0, Value.int .i64 0, Value.int .u64 0, Value.int .u64 0, Value.slice none 0 0, Value.slice none 0 0]) := ⟨fun _ => by kernel_rfl⟩
instance in75 : InfoA Tryz.prog 75 (Value.agg #[Value.slice none 0 0, Value.int .i64 0, Value.bool false, Value.int .i64 0, Value.int .i64 0, Value.int .u64 0, Value.int .u64 0, Value.slice none 0 0, Value.slice none 0 0]) 9 120 := ⟨by kernel_rfl⟩
instance ty76 : TyA Tryz.prog 76 true 9 := ⟨fun _ => by kernel_rfl, fun _ => by kernel_rfl⟩
instance bu76 : BuildA Tryz.prog 76 [(0, 1), (1, 1), (2, 1), (3, 6)] := ⟨by kernel_rfl, by kernel_rfl⟩
instance fv76_0 : FieldT Tryz.prog 76 0 25 0 := ⟨by kernel_rfl, by kernel_rfl⟩
instance fv76_1 : FieldT Tryz.prog 76 1 3 1 := ⟨by kernel_rfl, by kernel_rfl⟩
instance fv76_2 : FieldT Tryz.prog 76 2 4 2 := ⟨by kernel_rfl, by kernel_rfl⟩
instance fv76_3 : FieldT Tryz.prog 76 3 34 3 := ⟨by kernel_rfl, by kernel_rfl⟩
instance fi76_0 : FieldA Tryz.prog 76 0 0 := ⟨fun _ _ _ => by kernel_rfl⟩
instance fi76_1 : FieldA Tryz.prog 76 1 1 := ⟨fun _ _ _ => by kernel_rfl⟩
instance fi76_2 : FieldA Tryz.prog 76 2 2 := ⟨fun _ _ _ => by kernel_rfl⟩
instance fi76_3 : FieldA Tryz.prog 76 3 3 := ⟨fun _ _ _ => by kernel_rfl⟩
instance ze76 : ZeroA Tryz.prog 76 (Value.agg #[Value.slice none 0 0, Value.int .i64 0, Value.bool false, Value.int .i64 0, Value.int .i64 0, Value.int .u64 0, Value.int .u64 0, Value.slice none 0 0, Value.slice none 0 0]) := ⟨fun _ => by kernel_rfl⟩
instance in76 : InfoA Tryz.prog 76 (Value.agg #[Value.slice none 0 0, Value.int .i64 0, Value.bool false, Value.int .i64 0, Value.int .i64 0, Value.int .u64 0, Value.int .u64 0, Value.slice none 0 0, Value.slice none 0 0]) 9 120 := ⟨by kernel_rfl⟩
instance ty78 : TyA Tryz.prog 78 false 1 := ⟨fun _ => by kernel_rfl, fun _ => by kernel_rfl⟩
instance un78 : Und Tryz.prog 78 (.pointer 76) := ⟨Tryz.underlying78⟩
instance ze78 : ZeroA Tryz.prog 78 (Value.pointer none) := ⟨fun _ => by kernel_rfl⟩
instance in78 : InfoA Tryz.prog 78 (Value.pointer none) 1 8 := ⟨by kernel_rfl⟩
instance ty86 : TyA Tryz.prog 86 true 4 := ⟨fun _ => by kernel_rfl, fun _ => by kernel_rfl⟩
instance bu86 : BuildA Tryz.prog 86 [(0, 1), (1, 1), (2, 1), (3, 1)] := ⟨by kernel_rfl, by kernel_rfl⟩
instance fv86_0 : FieldT Tryz.prog 86 0 66 0 := ⟨by kernel_rfl, by kernel_rfl⟩
instance fv86_1 : FieldT Tryz.prog 86 1 3 1 := ⟨by kernel_rfl, by kernel_rfl⟩
instance fv86_2 : FieldT Tryz.prog 86 2 3 2 := ⟨by kernel_rfl, by kernel_rfl⟩
instance fv86_3 : FieldT Tryz.prog 86 3 22 3 := ⟨by kernel_rfl, by kernel_rfl⟩
instance fi86_0 : FieldA Tryz.prog 86 0 0 := ⟨fun _ _ _ => by kernel_rfl⟩
instance fi86_1 : FieldA Tryz.prog 86 1 1 := ⟨fun _ _ _ => by kernel_rfl⟩
instance fi86_2 : FieldA Tryz.prog 86 2 2 := ⟨fun _ _ _ => by kernel_rfl⟩
instance fi86_3 : FieldA Tryz.prog 86 3 3 := ⟨fun _ _ _ => by kernel_rfl⟩
instance ze86 : ZeroA Tryz.prog 86 (Value.agg #[Value.nilFunc, Value.int .i64 0, Value.int .i64 0, Value.int .u64 0]) := ⟨fun _ => by kernel_rfl⟩
instance in86 : InfoA Tryz.prog 86 (Value.agg #[Value.nilFunc, Value.int .i64 0, Value.int .i64 0, Value.int .u64 0]) 4 32 := ⟨by kernel_rfl⟩
instance ty87 : TyA Tryz.prog 87 true 4 := ⟨fun _ => by kernel_rfl, fun _ => by kernel_rfl⟩
instance bu87 : BuildA Tryz.prog 87 [(0, 1), (1, 1), (2, 1), (3, 1)] := ⟨by kernel_rfl, by kernel_rfl⟩
instance fv87_0 : FieldT Tryz.prog 87 0 66 0 := ⟨by kernel_rfl, by kernel_rfl⟩
instance fv87_1 : FieldT Tryz.prog 87 1 3 1 := ⟨by kernel_rfl, by kernel_rfl⟩
instance fv87_2 : FieldT Tryz.prog 87 2 3 2 := ⟨by kernel_rfl, by kernel_rfl⟩
instance fv87_3 : FieldT Tryz.prog 87 3 22 3 := ⟨by kernel_rfl, by kernel_rfl⟩
instance fi87_0 : FieldA Tryz.prog 87 0 0 := ⟨fun _ _ _ => by kernel_rfl⟩
instance fi87_1 : FieldA Tryz.prog 87 1 1 := ⟨fun _ _ _ => by kernel_rfl⟩
instance fi87_2 : FieldA Tryz.prog 87 2 2 := ⟨fun _ _ _ => by kernel_rfl⟩
instance fi87_3 : FieldA Tryz.prog 87 3 3 := ⟨fun _ _ _ => by kernel_rfl⟩
instance ze87 : ZeroA Tryz.prog 87 (Value.agg #[Value.nilFunc, Value.int .i64 0, Value.int .i64 0, Value.int .u64 0]) := ⟨fun _ => by kernel_rfl⟩
instance in87 : InfoA Tryz.prog 87 (Value.agg #[Value.nilFunc, Value.int .i64 0, Value.int .i64 0, Value.int .u64 0]) 4 32 := ⟨by kernel_rfl⟩
instance ty88 : TyA Tryz.prog 88 false 1 := ⟨fun _ => by kernel_rfl, fun _ => by kernel_rfl⟩
instance un88 : Und Tryz.prog 88 (.map 3 84) := ⟨Tryz.underlying88⟩
instance ze88 : ZeroA Tryz.prog 88 (Value.map none) := ⟨fun _ => by kernel_rfl⟩
instance in88 : InfoA Tryz.prog 88 (Value.map none) 1 8 := ⟨by kernel_rfl⟩
instance ty102 : TyA Tryz.prog 102 false 1 := ⟨fun _ => by kernel_rfl, fun _ => by kernel_rfl⟩
instance un102 : Und Tryz.prog 102 (.pointer 109) := ⟨Tryz.underlying102⟩
instance ze102 : ZeroA Tryz.prog 102 (Value.pointer none) := ⟨fun _ => by kernel_rfl⟩
instance in102 : InfoA Tryz.prog 102 (Value.pointer none) 1 8 := ⟨by kernel_rfl⟩
instance ty103 : TyA Tryz.prog 103 false 1 := ⟨fun _ => by kernel_rfl, fun _ => by kernel_rfl⟩
instance un103 : Und Tryz.prog 103 (.map 3 101) := ⟨Tryz.underlying103⟩
instance ze103 : ZeroA Tryz.prog 103 (Value.map none) := ⟨fun _ => by kernel_rfl⟩
instance in103 : InfoA Tryz.prog 103 (Value.map none) 1 8 := ⟨by kernel_rfl⟩
instance ty106 : TyA Tryz.prog 106 true 2 := ⟨fun _ => by kernel_rfl, fun _ => by kernel_rfl⟩
instance bu106 : BuildA Tryz.prog 106 [(0, 1), (1, 1)] := ⟨by kernel_rfl, by kernel_rfl⟩
instance eq106 : EqA Tryz.prog 106 2 := ⟨by kernel_rfl, by kernel_rfl, by kernel_rfl, by kernel_rfl, by kernel_rfl⟩
instance fv106_0 : FieldT Tryz.prog 106 0 3 0 := ⟨by kernel_rfl, by kernel_rfl⟩
instance fv106_1 : FieldT Tryz.prog 106 1 22 1 := ⟨by kernel_rfl, by kernel_rfl⟩
instance fi106_0 : FieldA Tryz.prog 106 0 0 := ⟨fun _ _ _ => by kernel_rfl⟩
instance fi106_1 : FieldA Tryz.prog 106 1 1 := ⟨fun _ _ _ => by kernel_rfl⟩
instance ze106 : ZeroA Tryz.prog 106 (Value.agg #[Value.int .i64 0, Value.int .u64 0]) := ⟨fun _ => by kernel_rfl⟩
instance in106 : InfoA Tryz.prog 106 (Value.agg #[Value.int .i64 0, Value.int .u64 0]) 2 16 := ⟨by kernel_rfl⟩
instance ty107 : TyA Tryz.prog 107 true 2 := ⟨fun _ => by kernel_rfl, fun _ => by kernel_rfl⟩
instance bu107 : BuildA Tryz.prog 107 [(0, 1), (1, 1)] := ⟨by kernel_rfl, by kernel_rfl⟩
instance eq107 : EqA Tryz.prog 107 2 := ⟨by kernel_rfl, by kernel_rfl, by kernel_rfl, by kernel_rfl, by kernel_rfl⟩
instance fv107_0 : FieldT Tryz.prog 107 0 3 0 := ⟨by kernel_rfl, by kernel_rfl⟩
instance fv107_1 : FieldT Tryz.prog 107 1 22 1 := ⟨by kernel_rfl, by kernel_rfl⟩
instance fi107_0 : FieldA Tryz.prog 107 0 0 := ⟨fun _ _ _ => by kernel_rfl⟩
instance fi107_1 : FieldA Tryz.prog 107 1 1 := ⟨fun _ _ _ => by kernel_rfl⟩
instance ze107 : ZeroA Tryz.prog 107 (Value.agg #[Value.int .i64 0, Value.int .u64 0]) := ⟨fun _ => by kernel_rfl⟩
instance in107 : InfoA Tryz.prog 107 (Value.agg #[Value.int .i64 0, Value.int .u64 0]) 2 16 := ⟨by kernel_rfl⟩
instance ty108 : TyA Tryz.prog 108 true 13 := ⟨fun _ => by kernel_rfl, fun _ => by kernel_rfl⟩
instance bu108 : BuildA Tryz.prog 108 [(0, 1), (1, 1), (2, 1), (3, 1), (4, 1), (5, 1), (6, 1), (7, 2), (9, 2), (11, 1), (12, 1)] := ⟨by kernel_rfl, by kernel_rfl⟩
instance fv108_0 : FieldT Tryz.prog 108 0 66 0 := ⟨by kernel_rfl, by kernel_rfl⟩
instance fv108_1 : FieldT Tryz.prog 108 1 3 1 := ⟨by kernel_rfl, by kernel_rfl⟩
instance fv108_2 : FieldT Tryz.prog 108 2 3 2 := ⟨by kernel_rfl, by kernel_rfl⟩
instance fv108_3 : FieldT Tryz.prog 108 3 22 3 := ⟨by kernel_rfl, by kernel_rfl⟩
instance fv108_4 : FieldT Tryz.prog 108 4 22 4 := ⟨by kernel_rfl, by kernel_rfl⟩
instance fv108_5 : FieldT Tryz.prog 108 5 22 5 := ⟨by kernel_rfl, by kernel_rfl⟩
instance fv108_6 : FieldT Tryz.prog 108 6 22 6 := ⟨by kernel_rfl, by kernel_rfl⟩
instance fv108_7 : FieldT Tryz.prog 108 7 107 7 := ⟨by kernel_rfl, by kernel_rfl⟩
instance fv108_8 : FieldT Tryz.prog 108 8 107 9 := ⟨by kernel_rfl, by kernel_rfl⟩
instance fv108_9 : FieldT Tryz.prog 108 9 3 11 := ⟨by kernel_rfl, by kernel_rfl⟩
instance fv108_10 : FieldT Tryz.prog 108 10 3 12 := ⟨by kernel_rfl, by kernel_rfl⟩
instance fi108_0 : FieldA Tryz.prog 108 0 0 := ⟨fun _ _ _ => by kernel_rfl⟩
instance fi108_1 : FieldA Tryz.prog 108 1 1 := ⟨fun _ _ _ => by kernel_rfl⟩
instance fi108_2 : FieldA Tryz.prog 108 2 2 := ⟨fun _ _ _ => by kernel_rfl⟩
instance fi108_3 : FieldA Tryz.prog 108 3 3 := ⟨fun _ _ _ => by kernel_rfl⟩
instance fi108_4 : FieldA Tryz.prog 108 4 4 := ⟨fun _ _ _ => by kernel_rfl⟩
instance fi108_5 : FieldA Tryz.prog 108 5 5 := ⟨fun _ _ _ => by kernel_rfl⟩
instance fi108_6 : FieldA Tryz.prog 108 6 6 := ⟨fun _ _ _ => by kernel_rfl⟩
instance fi108_7 : FieldA Tryz.prog 108 7 7 := ⟨fun _ _ _ => by kernel_rfl⟩
instance fi108_8 : FieldA Tryz.prog 108 8 9 := ⟨fun _ _ _ => by kernel_rfl⟩
instance fi108_9 : FieldA Tryz.prog 108 9 11 := ⟨fun _ _ _ => by kernel_rfl⟩
instance fi108_10 : FieldA Tryz.prog 108 10 12 := ⟨fun _ _ _ => by kernel_rfl⟩
instance ze108 : ZeroA Tryz.prog 108 (Value.agg #[Value.nilFunc, Value.int .i64 0, Value.int .i64 0, Value.int .u64 0, Value.int .u64 0, Value.int .u64 0, Value.int .u64 0, Value.int .i64 0, Value.int .u64 0, Value.int .i64 0, Value.int .u64 0, Value.int .i64 0, Value.int .i64 0]) := ⟨fun _ => by kernel_rfl⟩
instance in108 : InfoA Tryz.prog 108 (Value.agg #[Value.nilFunc, Value.int .i64 0, Value.int .i64 0, Value.int .u64 0, Value.int .u64 0, Value.int .u64 0, Value.int .u64 0, Value.int .i64 0, Value.int .u64 0, Value.int .i64 0, Value.int .u64 0, Value.int .i64 0, Value.int .i64 0]) 13 104 := ⟨by kernel_rfl⟩
instance ty109 : TyA Tryz.prog 109 true 13 := ⟨fun _ => by kernel_rfl, fun _ => by kernel_rfl⟩
instance bu109 : BuildA Tryz.prog 109 [(0, 1), (1, 1), (2, 1), (3, 1), (4, 1), (5, 1), (6, 1), (7, 2), (9, 2), (11, 1), (12, 1)] := ⟨by kernel_rfl, by kernel_rfl⟩
instance fv109_0 : FieldT Tryz.prog 109 0 66 0 := ⟨by kernel_rfl, by kernel_rfl⟩
instance fv109_1 : FieldT Tryz.prog 109 1 3 1 := ⟨by kernel_rfl, by kernel_rfl⟩
instance fv109_2 : FieldT Tryz.prog 109 2 3 2 := ⟨by kernel_rfl, by kernel_rfl⟩
instance fv109_3 : FieldT Tryz.prog 109 3 22 3 := ⟨by kernel_rfl, by kernel_rfl⟩
instance fv109_4 : FieldT Tryz.prog 109 4 22 4 := ⟨by kernel_rfl, by kernel_rfl⟩
instance fv109_5 : FieldT Tryz.prog 109 5 22 5 := ⟨by kernel_rfl, by kernel_rfl⟩
instance fv109_6 : FieldT Tryz.prog 109 6 22 6 := ⟨by kernel_rfl, by kernel_rfl⟩
instance fv109_7 : FieldT Tryz.prog 109 7 107 7 := ⟨by kernel_rfl, by kernel_rfl⟩
instance fv109_8 : FieldT Tryz.prog 109 8 107 9 := ⟨by kernel_rfl, by kernel_rfl⟩
instance fv109_9 : FieldT Tryz.prog 109 9 3 11 := ⟨by kernel_rfl, by kernel_rfl⟩
instance fv109_10 : FieldT Tryz.prog 109 10 3 12 := ⟨by kernel_rfl, by kernel_rfl⟩
instance fi109_0 : FieldA Tryz.prog 109 0 0 := ⟨fun _ _ _ => by kernel_rfl⟩
instance fi109_1 : FieldA Tryz.prog 109 1 1 := ⟨fun _ _ _ => by kernel_rfl⟩
instance fi109_2 : FieldA Tryz.prog 109 2 2 := ⟨fun _ _ _ => by kernel_rfl⟩
instance fi109_3 : FieldA Tryz.prog 109 3 3 := ⟨fun _ _ _ => by kernel_rfl⟩
instance fi109_4 : FieldA Tryz.prog 109 4 4 := ⟨fun _ _ _ => by kernel_rfl⟩
instance fi109_5 : FieldA Tryz.prog 109 5 5 := ⟨fun _ _ _ => by kernel_rfl⟩
instance fi109_6 : FieldA Tryz.prog 109 6 6 := ⟨fun _ _ _ => by kernel_rfl⟩
instance fi109_7 : FieldA Tryz.prog 109 7 7 := ⟨fun _ _ _ => by kernel_rfl⟩
instance fi109_8 : FieldA Tryz.prog 109 8 9 := ⟨fun _ _ _ => by kernel_rfl⟩
instance fi109_9 : FieldA Tryz.prog 109 9 11 := ⟨fun _ _ _ => by kernel_rfl⟩
instance fi109_10 : FieldA Tryz.prog 109 10 12 := ⟨fun _ _ _ => by kernel_rfl⟩
instance ze109 : ZeroA Tryz.prog 109 (Value.agg #[Value.nilFunc, Value.int .i64 0, Value.int .i64 0, Value.int .u64 0, Value.int .u64 0, Value.int .u64 0, Value.int .u64 0, Value.int .i64 0, Value.int .u64 0, Value.int .i64 0, Value.int .u64 0, Value.int .i64 0, Value.int .i64 0]) := ⟨fun _ => by kernel_rfl⟩
instance in109 : InfoA Tryz.prog 109 (Value.agg #[Value.nilFunc, Value.int .i64 0, Value.int .i64 0, Value.int .u64 0, Value.int .u64 0, Value.int .u64 0, Value.int .u64 0, Value.int .i64 0, Value.int .u64 0, Value.int .i64 0, Value.int .u64 0, Value.int .i64 0, Value.int .i64 0]) 13 104 := ⟨by kernel_rfl⟩
instance ty111 : TyA Tryz.prog 111 true 12 := ⟨fun _ => by kernel_rfl, fun _ => by kernel_rfl⟩
instance bu111 : BuildA Tryz.prog 111 [(0, 1), (1, 1), (2, 1), (3, 1), (4, 1), (5, 1), (6, 1), (7, 1), (8, 1), (9, 1), (10, 1), (11, 1)] := ⟨by kernel_rfl, by kernel_rfl⟩
instance eq111 : EqA Tryz.prog 111 12 := ⟨by kernel_rfl, by kernel_rfl, by kernel_rfl, by kernel_rfl, by kernel_rfl⟩
instance fv111_0 : FieldT Tryz.prog 111 0 3 0 := ⟨by kernel_rfl, by kernel_rfl⟩
instance fv111_1 : FieldT Tryz.prog 111 1 3 1 := ⟨by kernel_rfl, by kernel_rfl⟩
instance fv111_2 : FieldT Tryz.prog 111 2 22 2 := ⟨by kernel_rfl, by kernel_rfl⟩
instance fv111_3 : FieldT Tryz.prog 111 3 22 3 := ⟨by kernel_rfl, by kernel_rfl⟩
instance fv111_4 : FieldT Tryz.prog 111 4 22 4 := ⟨by kernel_rfl, by kernel_rfl⟩
instance fv111_5 : FieldT Tryz.prog 111 5 22 5 := ⟨by kernel_rfl, by kernel_rfl⟩
instance fv111_6 : FieldT Tryz.prog 111 6 3 6 := ⟨by kernel_rfl, by kernel_rfl⟩
instance fv111_7 : FieldT Tryz.prog 111 7 22 7 := ⟨by kernel_rfl, by kernel_rfl⟩
instance fv111_8 : FieldT Tryz.prog 111 8 3 8 := ⟨by kernel_rfl, by kernel_rfl⟩
instance fv111_9 : FieldT Tryz.prog 111 9 22 9 := ⟨by kernel_rfl, by kernel_rfl⟩
instance fv111_10 : FieldT Tryz.prog 111 10 3 10 := ⟨by kernel_rfl, by kernel_rfl⟩
instance fv111_11 : FieldT Tryz.prog 111 11 3 11 := ⟨by kernel_rfl, by kernel_rfl⟩
instance fi111_0 : FieldA Tryz.prog 111 0 0 := ⟨fun _ _ _ => by kernel_rfl⟩
instance fi111_1 : FieldA Tryz.prog 111 1 1 := ⟨fun _ _ _ => by kernel_rfl⟩
instance fi111_2 : FieldA Tryz.prog 111 2 2 := ⟨fun _ _ _ => by kernel_rfl⟩
instance fi111_3 : FieldA Tryz.prog 111 3 3 := ⟨fun _ _ _ => by kernel_rfl⟩
instance fi111_4 : FieldA Tryz.prog 111 4 4 := ⟨fun _ _ _ => by kernel_rfl⟩
instance fi111_5 : FieldA Tryz.prog 111 5 5 := ⟨fun _ _ _ => by kernel_rfl⟩
instance fi111_6 : FieldA Tryz.prog 111 6 6 := ⟨fun _ _ _ => by kernel_rfl⟩
instance fi111_7 : FieldA Tryz.prog 111 7 7 := ⟨fun _ _ _ => by kernel_rfl⟩
instance fi111_8 : FieldA Tryz.prog 111 8 8 := ⟨fun _ _ _ => by kernel_rfl⟩
instance fi111_9 : FieldA Tryz.prog 111 9 9 := ⟨fun _ _ _ => by kernel_rfl⟩
instance fi111_10 : FieldA Tryz.prog 111 10 10 := ⟨fun _ _ _ => by kernel_rfl⟩
instance fi111_11 : FieldA Tryz.prog 111 11 11 := ⟨fun _ _ _ => by kernel_rfl⟩
instance ze111 : ZeroA Tryz.prog 111 (Value.agg #[Value.int .i64 0, Value.int .i64 0, Value.int .u64 0, Value.int .u64 0, Value.int .u64 0, Value.int .u64 0, Value.int .i64 0, Value.int .u64 0, Value.int .i64 0, Value.int .u64 0, Value.int .i64 0, Value.int .i64 0]) := ⟨fun _ => by kernel_rfl⟩
instance in111 : InfoA Tryz.prog 111 (Value.agg #[Value.int .i64 0, Value.int .i64 0, Value.int .u64 0, Value.int .u64 0, Value.int .u64 0, Value.int .u64 0, Value.int .i64 0, Value.int .u64 0, Value.int .i64 0, Value.int .u64 0, Value.int .i64 0, Value.int .i64 0]) 12 96 := ⟨by kernel_rfl⟩
instance ty112 : TyA Tryz.prog 112 true 12 := ⟨fun _ => by kernel_rfl, fun _ => by kernel_rfl⟩
instance bu112 : BuildA Tryz.prog 112 [(0, 1), (1, 1), (2, 1), (3, 1), (4, 1), (5, 1), (6, 1), (7, 1), (8, 1), (9, 1), (10, 1), (11, 1)] := ⟨by kernel_rfl, by kernel_rfl⟩
instance eq112 : EqA Tryz.prog 112 12 := ⟨by kernel_rfl, by kernel_rfl, by kernel_rfl, by kernel_rfl, by kernel_rfl⟩
instance fv112_0 : FieldT Tryz.prog 112 0 3 0 := ⟨by kernel_rfl, by kernel_rfl⟩
instance fv112_1 : FieldT Tryz.prog 112 1 3 1 := ⟨by kernel_rfl, by kernel_rfl⟩
instance fv112_2 : FieldT Tryz.prog 112 2 22 2 := ⟨by kernel_rfl, by kernel_rfl⟩
instance fv112_3 : FieldT Tryz.prog 112 3 22 3 := ⟨by kernel_rfl, by kernel_rfl⟩
instance fv112_4 : FieldT Tryz.prog 112 4 22 4 := ⟨by kernel_rfl, by kernel_rfl⟩
instance fv112_5 : FieldT Tryz.prog 112 5 22 5 := ⟨by kernel_rfl, by kernel_rfl⟩
instance fv112_6 : FieldT Tryz.prog 112 6 3 6 := ⟨by kernel_rfl, by kernel_rfl⟩
instance fv112_7 : FieldT Tryz.prog 112 7 22 7 := ⟨by kernel_rfl, by kernel_rfl⟩
instance fv112_8 : FieldT Tryz.prog 112 8 3 8 := ⟨by kernel_rfl, by kernel_rfl⟩
instance fv112_9 : FieldT Tryz.prog 112 9 22 9 := ⟨by kernel_rfl, by kernel_rfl⟩
instance fv112_10 : FieldT Tryz.prog 112 10 3 10 := ⟨by kernel_rfl, by kernel_rfl⟩
instance fv112_11 : FieldT Tryz.prog 112 11 3 11 := ⟨by kernel_rfl, by kernel_rfl⟩
instance fi112_0 : FieldA Tryz.prog 112 0 0 := ⟨fun _ _ _ => by kernel_rfl⟩
instance fi112_1 : FieldA Tryz.prog 112 1 1 := ⟨fun _ _ _ => by kernel_rfl⟩
instance fi112_2 : FieldA Tryz.prog 112 2 2 := ⟨fun _ _ _ => by kernel_rfl⟩
instance fi112_3 : FieldA Tryz.prog 112 3 3 := ⟨fun _ _ _ => by kernel_rfl⟩
instance fi112_4 : FieldA Tryz.prog 112 4 4 := ⟨fun _ _ _ => by kernel_rfl⟩
instance fi112_5 : FieldA Tryz.prog 112 5 5 := ⟨fun _ _ _ => by kernel_rfl⟩
instance fi112_6 : FieldA Tryz.prog 112 6 6 := ⟨fun _ _ _ => by kernel_rfl⟩
instance fi112_7 : FieldA Tryz.prog 112 7 7 := ⟨fun _ _ _ => by kernel_rfl⟩
instance fi112_8 : FieldA Tryz.prog 112 8 8 := ⟨fun _ _ _ => by kernel_rfl⟩
instance fi112_9 : FieldA Tryz.prog 112 9 9 := ⟨fun _ _ _ => by kernel_rfl⟩
instance fi112_10 : FieldA Tryz.prog 112 10 10 := ⟨fun _ _ _ => by kernel_rfl⟩
instance fi112_11 : FieldA Tryz.prog 112 11 11 := ⟨fun _ _ _ => by kernel_rfl⟩
instance ze112 : ZeroA Tryz.prog 112 (Value.agg #[Value.int .i64 0, Value.int .i64 0, Value.int .u64 0, Value.int .u64 0, Value.int .u64 0, Value.int .u64 0, Value.int .i64 0, Value.int .u64 0, Value.int .i64 0, Value.int .u64 0, Value.int .i64 0, Value.int .i64 0]) := ⟨fun _ => by kernel_rfl⟩
instance in112 : InfoA Tryz.prog 112 (Value.agg #[Value.int .i64 0, Value.int .i64 0, Value.int .u64 0, Value.int .u64 0, Value.int .u64 0, Value.int .u64 0, Value.int .i64 0, Value.int .u64 0, Value.int .i64 0, Value.int .u64 0, Value.int .i64 0, Value.int .i64 0]) 12 96 := ⟨by kernel_rfl⟩
instance ty114 : TyA Tryz.prog 114 false 1 := ⟨fun _ => by kernel_rfl, fun _ => by kernel_rfl⟩
instance un114 : Und Tryz.prog 114 (.pointer 112) := ⟨Tryz.underlying114⟩
instance ze114 : ZeroA Tryz.prog 114 (Value.pointer none) := ⟨fun _ => by kernel_rfl⟩
instance in114 : InfoA Tryz.prog 114 (Value.pointer none) 1 8 := ⟨by kernel_rfl⟩
instance ty115 : TyA Tryz.prog 115 false 1 := ⟨fun _ => by kernel_rfl, fun _ => by kernel_rfl⟩
instance un115 : Und Tryz.prog 115 (.slice 24) := ⟨Tryz.underlying115⟩
instance ze115 : ZeroA Tryz.prog 115 (Value.slice none 0 0) := ⟨fun _ => by kernel_rfl⟩
instance in115 : InfoA Tryz.prog 115 (Value.slice none 0 0) 1 24 := ⟨by kernel_rfl⟩
instance ty116 : TyA Tryz.prog 116 false 1 := ⟨fun _ => by kernel_rfl, fun _ => by kernel_rfl⟩
instance un116 : Und Tryz.prog 116 (.pointer 118) := ⟨Tryz.underlying116⟩
instance ze116 : ZeroA Tryz.prog 116 (Value.pointer none) := ⟨fun _ => by kernel_rfl⟩
instance in116 : InfoA Tryz.prog 116 (Value.pointer none) 1 8 := ⟨by kernel_rfl⟩
instance ty117 : TyA Tryz.prog 117 true 5 := ⟨fun _ => by kernel_rfl, fun _ => by kernel_rfl⟩
instance bu117 : BuildA Tryz.prog 117 [(0, 1), (1, 1), (2, 1), (3, 1), (4, 1)] := ⟨by kernel_rfl, by kernel_rfl⟩
instance fv117_0 : FieldT Tryz.prog 117 0 66 0 := ⟨by kernel_rfl, by kernel_rfl⟩
instance fv117_1 : FieldT Tryz.prog 117 1 3 1 := ⟨by kernel_rfl, by kernel_rfl⟩
instance fv117_2 : FieldT Tryz.prog 117 2 3 2 := ⟨by kernel_rfl, by kernel_rfl⟩
instance fv117_3 : FieldT Tryz.prog 117 3 3 3 := ⟨by kernel_rfl, by kernel_rfl⟩
instance fv117_4 : FieldT Tryz.prog 117 4 22 4 := ⟨by kernel_rfl, by kernel_rfl⟩
instance fi117_0 : FieldA Tryz.prog 117 0 0 := ⟨fun _ _ _ => by kernel_rfl⟩
instance fi117_1 : FieldA Tryz.prog 117 1 1 := ⟨fun _ _ _ => by kernel_rfl⟩
instance fi117_2 : FieldA Tryz.prog 117 2 2 := ⟨fun _ _ _ => by kernel_rfl⟩
instance fi117_3 : FieldA Tryz.prog 117 3 3 := ⟨fun _ _ _ => by kernel_rfl⟩
instance fi117_4 : FieldA Tryz.prog 117 4 4 := ⟨fun _ _ _ => by kernel_rfl⟩
instance ze117 : ZeroA Tryz.prog 117 (Value.agg #[Value.nilFunc, Value.int .i64 0, Value.int .i64 0, Value.int .i64 0, Value.int .u64 0]) := ⟨fun _ => by kernel_rfl⟩
instance in117 : InfoA Tryz.prog 117 (Value.agg #[Value.nilFunc, Value.int .i64 0, Value.int .i64 0, Value.int .i64 0, Value.int .u64 0]) 5 40 := ⟨by kernel_rfl⟩
instance ty118 : TyA Tryz.prog 118 true 5 := ⟨fun _ => by kernel_rfl, fun _ => by kernel_rfl⟩
instance bu118 : BuildA Tryz.prog 118 [(0, 1), (1, 1), (2, 1), (3, 1), (4, 1)] := ⟨by kernel_rfl, by kernel_rfl⟩
instance fv118_0 : FieldT Tryz.prog 118 0 66 0 := ⟨by kernel_rfl, by kernel_rfl⟩
instance fv118_1 : FieldT Tryz.prog 118 1 3 1 := ⟨by kernel_rfl, by kernel_rfl⟩
instance fv118_2 : FieldT Tryz.prog 118 2 3 2 := ⟨by kernel_rfl, by kernel_rfl⟩
instance fv118_3 : FieldT Tryz.prog 118 3 3 3 := ⟨by kernel_rfl, by kernel_rfl⟩
instance fv118_4 : FieldT Tryz.prog 118 4 22 4 := ⟨by kernel_rfl, by kernel_rfl⟩
instance fi118_0 : FieldA Tryz.prog 118 0 0 := ⟨fun _ _ _ => by kernel_rfl⟩
instance fi118_1 : FieldA Tryz.prog 118 1 1 := ⟨fun _ _ _ => by kernel_rfl⟩
instance fi118_2 : FieldA Tryz.prog 118 2 2 := ⟨fun _ _ _ => by kernel_rfl⟩
instance fi118_3 : FieldA Tryz.prog 118 3 3 := ⟨fun _ _ _ => by kernel_rfl⟩
instance fi118_4 : FieldA Tryz.prog 118 4 4 := ⟨fun _ _ _ => by kernel_rfl⟩
instance ze118 : ZeroA Tryz.prog 118 (Value.agg #[Value.nilFunc, Value.int .i64 0, Value.int .i64 0, Value.int .i64 0, Value.int .u64 0]) := ⟨fun _ => by kernel_rfl⟩
instance in118 : InfoA Tryz.prog 118 (Value.agg #[Value.nilFunc, Value.int .i64 0, Value.int .i64 0, Value.int .i64 0, Value.int .u64 0]) 5 40 := ⟨by kernel_rfl⟩
instance ty124 : TyA Tryz.prog 124 true 3 := ⟨fun _ => by kernel_rfl, fun _ => by kernel_rfl⟩
instance bu124 : BuildA Tryz.prog 124 [(0, 1), (1, 1), (2, 1)] := ⟨by kernel_rfl, by kernel_rfl⟩
instance fv124_0 : FieldT Tryz.prog 124 0 22 0 := ⟨by kernel_rfl, by kernel_rfl⟩
instance fv124_1 : FieldT Tryz.prog 124 1 31 1 := ⟨by kernel_rfl, by kernel_rfl⟩
instance fv124_2 : FieldT Tryz.prog 124 2 4 2 := ⟨by kernel_rfl, by kernel_rfl⟩
instance fi124_0 : FieldA Tryz.prog 124 0 0 := ⟨fun _ _ _ => by kernel_rfl⟩
instance fi124_1 : FieldA Tryz.prog 124 1 1 := ⟨fun _ _ _ => by kernel_rfl⟩
instance fi124_2 : FieldA Tryz.prog 124 2 2 := ⟨fun _ _ _ => by kernel_rfl⟩
instance ze124 : ZeroA Tryz.prog 124 (Value.agg #[Value.int .u64 0, Value.slice none 0 0, Value.bool false]) := ⟨fun _ => by kernel_rfl⟩
instance in124 : InfoA Tryz.prog 124 (Value.agg #[Value.int .u64 0, Value.slice none 0 0, Value.bool false]) 3 40 := ⟨by kernel_rfl⟩
instance ty125 : TyA Tryz.prog 125 true 3 := ⟨fun _ => by kernel_rfl, fun _ => by kernel_rfl⟩
instance bu125 : BuildA Tryz.prog 125 [(0, 1), (1, 1), (2, 1)] := ⟨by kernel_rfl, by kernel_rfl⟩
instance fv125_0 : FieldT Tryz.prog 125 0 22 0 := ⟨by kernel_rfl, by kernel_rfl⟩
instance fv125_1 : FieldT Tryz.prog 125 1 31 1 := ⟨by kernel_rfl, by kernel_rfl⟩
instance fv125_2 : FieldT Tryz.prog 125 2 4 2 := ⟨by kernel_rfl, by kernel_rfl⟩
instance fi125_0 : FieldA Tryz.prog 125 0 0 := ⟨fun _ _ _ => by kernel_rfl⟩
instance fi125_1 : FieldA Tryz.prog 125 1 1 := ⟨fun _ _ _ => by kernel_rfl⟩
instance fi125_2 : FieldA Tryz.prog 125 2 2 := ⟨fun _ _ _ => by kernel_rfl⟩
instance ze125 : ZeroA Tryz.prog 125 (Value.agg #[Value.int .u64 0, Value.slice none 0 0, Value.bool false]) := ⟨fun _ => by kernel_rfl⟩
instance in125 : InfoA Tryz.prog 125 (Value.agg #[Value.int .u64 0, Value.slice none 0 0, Value.bool false]) 3 40 := ⟨by kernel_rfl⟩
instance ty128 : TyA Tryz.prog 128 true 6 := ⟨fun _ => by kernel_rfl, fun _ => by kernel_rfl⟩
instance bu128 : BuildA Tryz.prog 128 [(0, 6)] := ⟨by kernel_rfl, by kernel_rfl⟩
instance fv128_0 : FieldT Tryz.prog 128 0 34 0 := ⟨by kernel_rfl, by kernel_rfl⟩
instance fi128_0 : FieldA Tryz.prog 128 0 0 := ⟨fun _ _ _ => by kernel_rfl⟩
instance ze128 : ZeroA Tryz.prog 128 (Value.agg #[Value.int .i64 0, Value.int .i64 0, Value.int .u64 0, Value.int .u64 0, Value.slice none 0 0, Value.slice none 0 0]) := ⟨fun _ => by kernel_rfl⟩
instance in128 : InfoA Tryz.prog 128 (Value.agg #[Value.int .i64 0, Value.int .i64 0, Value.int .u64 0, Value.int .u64 0, Value.slice none 0 0, Value.slice none 0 0]) 6 80 := ⟨by kernel_rfl⟩
instance ty129 : TyA Tryz.prog 129 true 6 := ⟨fun _ => by kernel_rfl, fun _ => by kernel_rfl⟩
instance bu129 : BuildA Tryz.prog 129 [(0, 6)] := ⟨by kernel_rfl, by kernel_rfl⟩
instance fv129_0 : FieldT Tryz.prog 129 0 34 0 := ⟨by kernel_rfl, by kernel_rfl⟩
instance fi129_0 : FieldA Tryz.prog 129 0 0 := ⟨fun _ _ _ => by kernel_rfl⟩
instance ze129 : ZeroA Tryz.prog 129 (Value.agg #[Value.int .i64 0, Value.int .i64 0, Value.int .u64 0, Value.int .u64 0, Value.slice none 0 0, Value.slice none 0 0]) := ⟨fun _ => by kernel_rfl⟩
instance in129 : InfoA Tryz.prog 129 (Value.agg #[Value.int .i64 0, Value.int .i64 0, Value.int .u64 0, Value.int .u64 0, Value.slice none 0 0, Value.slice none 0 0]) 6 80 := ⟨by kernel_rfl⟩
instance ty131 : TyA Tryz.prog 131 false 1 := ⟨fun _ => by kernel_rfl, fun _ => by kernel_rfl⟩
instance un131 : Und Tryz.prog 131 (.pointer 133) := ⟨Tryz.underlying131⟩
instance ze131 : ZeroA Tryz.prog 131 (Value.pointer none) := ⟨fun _ => by kernel_rfl⟩
instance in131 : InfoA Tryz.prog 131 (Value.pointer none) 1 8 := ⟨by kernel_rfl⟩
instance ty132 : TyA Tryz.prog 132 true 4 := ⟨fun _ => by kernel_rfl, fun _ => by kernel_rfl⟩
instance bu132 : BuildA Tryz.prog 132 [(0, 1), (1, 1), (2, 1), (3, 1)] := ⟨by kernel_rfl, by kernel_rfl⟩
instance fv132_0 : FieldT Tryz.prog 132 0 66 0 := ⟨by kernel_rfl, by kernel_rfl⟩
instance fv132_1 : FieldT Tryz.prog 132 1 3 1 := ⟨by kernel_rfl, by kernel_rfl⟩
instance fv132_2 : FieldT Tryz.prog 132 2 3 2 := ⟨by kernel_rfl, by kernel_rfl⟩
instance fv132_3 : FieldT Tryz.prog 132 3 3 3 := ⟨by kernel_rfl, by kernel_rfl⟩
instance fi132_0 : FieldA Tryz.prog 132 0 0 := ⟨fun _ _ _ => by kernel_rfl⟩
instance fi132_1 : FieldA Tryz.prog 132 1 1 := ⟨fun _ _ _ => by kernel_rfl⟩
instance fi132_2 : FieldA Tryz.prog 132 2 2 := ⟨fun _ _ _ => by kernel_rfl⟩
instance fi132_3 : FieldA Tryz.prog 132 3 3 := ⟨fun _ _ _ => by kernel_rfl⟩
instance ze132 : ZeroA Tryz.prog 132 (Value.agg #[Value.nilFunc, Value.int .i64 0, Value.int .i64 0, Value.int .i64 0]) := ⟨fun _ => by kernel_rfl⟩
instance in132 : InfoA Tryz.prog 132 (Value.agg #[Value.nilFunc, Value.int .i64 0, Value.int .i64 0, Value.int .i64 0]) 4 32 := ⟨by kernel_rfl⟩
instance ty133 : TyA Tryz.prog 133 true 4 := ⟨fun _ => by kernel_rfl, fun _ => by kernel_rfl⟩
instance bu133 : BuildA Tryz.prog 133 [(0, 1), (1, 1), (2, 1), (3, 1)] := ⟨by kernel_rfl, by kernel_rfl⟩
instance fv133_0 : FieldT Tryz.prog 133 0 66 0 := ⟨by kernel_rfl, by kernel_rfl⟩
instance fv133_1 : FieldT Tryz.prog 133 1 3 1 := ⟨by kernel_rfl, by kernel_rfl⟩
instance fv133_2 : FieldT Tryz.prog 133 2 3 2 := ⟨by kernel_rfl, by kernel_rfl⟩
instance fv133_3 : FieldT Tryz.prog 133 3 3 3 := ⟨by kernel_rfl, by kernel_rfl⟩
instance fi133_0 : FieldA Tryz.prog 133 0 0 := ⟨fun _ _ _ => by kernel_rfl⟩
instance fi133_1 : FieldA Tryz.prog 133 1 1 := ⟨fun _ _ _ => by kernel_rfl⟩
instance fi133_2 : FieldA Tryz.prog 133 2 2 := ⟨fun _ _ _ => by kernel_rfl⟩
instance fi133_3 : FieldA Tryz.prog 133 3 3 := ⟨fun _ _ _ => by kernel_rfl⟩
instance ze133 : ZeroA Tryz.prog 133 (Value.agg #[Value.nilFunc, Value.int .i64 0, Value.int .i64 0, Value.int .i64 0]) := ⟨fun _ => by kernel_rfl⟩
instance in133 : InfoA Tryz.prog 133 (Value.agg #[Value.nilFunc, Value.int .i64 0, Value.int .i64 0, Value.int .i64 0]) 4 32 := ⟨by kernel_rfl⟩
instance ty157 : TyA Tryz.prog 157 true 6 := ⟨fun _ => by kernel_rfl, fun _ => by kernel_rfl⟩
instance bu157 : BuildA Tryz.prog 157 [(0, 1), (1, 1), (2, 1), (3, 1), (4, 1), (5, 1)] := ⟨by kernel_rfl, by kernel_rfl⟩
instance eq157 : EqA Tryz.prog 157 6 := ⟨by kernel_rfl, by kernel_rfl, by kernel_rfl, by kernel_rfl, by kernel_rfl⟩
instance fv157_0 : FieldT Tryz.prog 157 0 3 0 := ⟨by kernel_rfl, by kernel_rfl⟩
instance fv157_1 : FieldT Tryz.prog 157 1 22 1 := ⟨by kernel_rfl, by kernel_rfl⟩
instance fv157_2 : FieldT Tryz.prog 157 2 22 2 := ⟨by kernel_rfl, by kernel_rfl⟩
instance fv157_3 : FieldT Tryz.prog 157 3 22 3 := ⟨by kernel_rfl, by kernel_rfl⟩
instance fv157_4 : FieldT Tryz.prog 157 4 22 4 := ⟨by kernel_rfl, by kernel_rfl⟩
instance fv157_5 : FieldT Tryz.prog 157 5 22 5 := ⟨by kernel_rfl, by kernel_rfl⟩
instance fi157_0 : FieldA Tryz.prog 157 0 0 := ⟨fun _ _ _ => by kernel_rfl⟩
instance fi157_1 : FieldA Tryz.prog 157 1 1 := ⟨fun _ _ _ => by kernel_rfl⟩
instance fi157_2 : FieldA Tryz.prog 157 2 2 := ⟨fun _ _ _ => by kernel_rfl⟩
instance fi157_3 : FieldA Tryz.prog 157 3 3 := ⟨fun _ _ _ => by kernel_rfl⟩
instance fi157_4 : FieldA Tryz.prog 157 4 4 := ⟨fun _ _ _ => by kernel_rfl⟩
instance fi157_5 : FieldA Tryz.prog 157 5 5 := ⟨fun _ _ _ => by kernel_rfl⟩
instance ze157 : ZeroA Tryz.prog 157 (Value.agg #[Value.int .i64 0, Value.int .u64 0, Value.int .u64 0, Value.int .u64 0, Value.int .u64 0, Value.int .u64 0]) := ⟨fun _ => by kernel_rfl⟩
instance in157 : InfoA Tryz.prog 157 (Value.agg #[Value.int .i64 0, Value.int .u64 0, Value.int .u64 0, Value.int .u64 0, Value.int .u64 0, Value.int .u64 0]) 6 48 := ⟨by kernel_rfl⟩
instance ty158 : TyA Tryz.prog 158 true 6 := ⟨fun _ => by kernel_rfl, fun _ => by kernel_rfl⟩
instance bu158 : BuildA Tryz.prog 158 [(0, 1), (1, 1), (2, 1), (3, 1), (4, 1), (5, 1)] := ⟨by kernel_rfl, by kernel_rfl⟩
instance eq158 : EqA Tryz.prog 158 6 := ⟨by kernel_rfl, by kernel_rfl, by kernel_rfl, by kernel_rfl, by kernel_rfl⟩
instance fv158_0 : FieldT Tryz.prog 158 0 3 0 := ⟨by kernel_rfl, by kernel_rfl⟩
instance fv158_1 : FieldT Tryz.prog 158 1 22 1 := ⟨by kernel_rfl, by kernel_rfl⟩
instance fv158_2 : FieldT Tryz.prog 158 2 22 2 := ⟨by kernel_rfl, by kernel_rfl⟩
instance fv158_3 : FieldT Tryz.prog 158 3 22 3 := ⟨by kernel_rfl, by kernel_rfl⟩
instance fv158_4 : FieldT Tryz.prog 158 4 22 4 := ⟨by kernel_rfl, by kernel_rfl⟩
instance fv158_5 : FieldT Tryz.prog 158 5 22 5 := ⟨by kernel_rfl, by kernel_rfl⟩
instance fi158_0 : FieldA Tryz.prog 158 0 0 := ⟨fun _ _ _ => by kernel_rfl⟩
instance fi158_1 : FieldA Tryz.prog 158 1 1 := ⟨fun _ _ _ => by kernel_rfl⟩
instance fi158_2 : FieldA Tryz.prog 158 2 2 := ⟨fun _ _ _ => by kernel_rfl⟩
instance fi158_3 : FieldA Tryz.prog 158 3 3 := ⟨fun _ _ _ => by kernel_rfl⟩
instance fi158_4 : FieldA Tryz.prog 158 4 4 := ⟨fun _ _ _ => by kernel_rfl⟩
instance fi158_5 : FieldA Tryz.prog 158 5 5 := ⟨fun _ _ _ => by kernel_rfl⟩
instance ze158 : ZeroA Tryz.prog 158 (Value.agg #[Value.int .i64 0, Value.int .u64 0, Value.int .u64 0, Value.int .u64 0, Value.int .u64 0, Value.int .u64 0]) := ⟨fun _ => by kernel_rfl⟩
instance in158 : InfoA Tryz.prog 158 (Value.agg #[Value.int .i64 0, Value.int .u64 0, Value.int .u64 0, Value.int .u64 0, Value.int .u64 0, Value.int .u64 0]) 6 48 := ⟨by kernel_rfl⟩
instance ty162 : TyA Tryz.prog 162 false 1 := ⟨fun _ => by kernel_rfl, fun _ => by kernel_rfl⟩
instance un162 : Und Tryz.prog 162 (.int .u64) := ⟨Tryz.underlying162⟩
instance ze162 : ZeroA Tryz.prog 162 (Value.int .u64 0) := ⟨fun _ => by kernel_rfl⟩
instance in162 : InfoA Tryz.prog 162 (Value.int .u64 0) 1 8 := ⟨by kernel_rfl⟩
instance ty182 : TyA Tryz.prog 182 false 1 := ⟨fun _ => by kernel_rfl, fun _ => by kernel_rfl⟩
instance ze182 : ZeroA Tryz.prog 182 (Value.nilFunc) := ⟨fun _ => by kernel_rfl⟩
instance in182 : InfoA Tryz.prog 182 (Value.nilFunc) 1 8 := ⟨by kernel_rfl⟩
instance ty184 : TyA Tryz.prog 184 true 3 := ⟨fun _ => by kernel_rfl, fun _ => by kernel_rfl⟩
instance bu184 : BuildA Tryz.prog 184 [(0, 1), (1, 1), (2, 1)] := ⟨by kernel_rfl, by kernel_rfl⟩
instance eq184 : EqA Tryz.prog 184 3 := ⟨by kernel_rfl, by kernel_rfl, by kernel_rfl, by kernel_rfl, by kernel_rfl⟩
instance fv184_0 : FieldT Tryz.prog 184 0 3 0 := ⟨by kernel_rfl, by kernel_rfl⟩
instance fv184_1 : FieldT Tryz.prog 184 1 3 1 := ⟨by kernel_rfl, by kernel_rfl⟩
instance fv184_2 : FieldT Tryz.prog 184 2 22 2 := ⟨by kernel_rfl, by kernel_rfl⟩
instance fi184_0 : FieldA Tryz.prog 184 0 0 := ⟨fun _ _ _ => by kernel_rfl⟩
instance fi184_1 : FieldA Tryz.prog 184 1 1 := ⟨fun _ _ _ => by kernel_rfl⟩
instance fi184_2 : FieldA Tryz.prog 184 2 2 := ⟨fun _ _ _ => by kernel_rfl⟩
instance ze184 : ZeroA Tryz.prog 184 (Value.agg #[Value.int .i64 0, Value.int .i64 0, Value.int .u64 0]) := ⟨fun _ => by kernel_rfl⟩
instance in184 : InfoA Tryz.prog 184 (Value.agg #[Value.int .i64 0, Value.int .i64 0, Value.int .u64 0]) 3 24 := ⟨by kernel_rfl⟩
instance ty185 : TyA Tryz.prog 185 true 3 := ⟨fun _ => by kernel_rfl, fun _ => by kernel_rfl⟩
instance bu185 : BuildA Tryz.prog 185 [(0, 1), (1, 1), (2, 1)] := ⟨by kernel_rfl, by kernel_rfl⟩
instance eq185 : EqA Tryz.prog 185 3 := ⟨by kernel_rfl, by kernel_rfl, by kernel_rfl, by kernel_rfl, by kernel_rfl⟩
instance fv185_0 : FieldT Tryz.prog 185 0 3 0 := ⟨by kernel_rfl, by kernel_rfl⟩
instance fv185_1 : FieldT Tryz.prog 185 1 3 1 := ⟨by kernel_rfl, by kernel_rfl⟩
instance fv185_2 : FieldT Tryz.prog 185 2 22 2 := ⟨by kernel_rfl, by kernel_rfl⟩
instance fi185_0 : FieldA Tryz.prog 185 0 0 := ⟨fun _ _ _ => by kernel_rfl⟩
instance fi185_1 : FieldA Tryz.prog 185 1 1 := ⟨fun _ _ _ => by kernel_rfl⟩
instance fi185_2 : FieldA Tryz.prog 185 2 2 := ⟨fun _ _ _ => by kernel_rfl⟩
instance ze185 : ZeroA Tryz.prog 185 (Value.agg #[Value.int .i64 0, Value.int .i64 0, Value.int .u64 0]) := ⟨fun _ => by kernel_rfl⟩
instance in185 : InfoA Tryz.prog 185 (Value.agg #[Value.int .i64 0, Value.int .i64 0, Value.int .u64 0]) 3 24 := ⟨by kernel_rfl⟩
instance ty201 : TyA Tryz.prog 201 true 2 := ⟨fun _ => by kernel_rfl, fun _ => by kernel_rfl⟩
instance bu201 : BuildA Tryz.prog 201 [(0, 1), (1, 1)] := ⟨by kernel_rfl, by kernel_rfl⟩
instance eq201 : EqA Tryz.prog 201 2 := ⟨by kernel_rfl, by kernel_rfl, by kernel_rfl, by kernel_rfl, by kernel_rfl⟩
instance fv201_0 : FieldT Tryz.prog 201 0 3 0 := ⟨by kernel_rfl, by kernel_rfl⟩
instance fv201_1 : FieldT Tryz.prog 201 1 22 1 := ⟨by kernel_rfl, by kernel_rfl⟩
instance fi201_0 : FieldA Tryz.prog 201 0 0 := ⟨fun _ _ _ => by kernel_rfl⟩
instance fi201_1 : FieldA Tryz.prog 201 1 1 := ⟨fun _ _ _ => by kernel_rfl⟩
instance ze201 : ZeroA Tryz.prog 201 (Value.agg #[Value.int .i64 0, Value.int .u64 0]) := ⟨fun _ => by kernel_rfl⟩
instance in201 : InfoA Tryz.prog 201 (Value.agg #[Value.int .i64 0, Value.int .u64 0]) 2 16 := ⟨by kernel_rfl⟩
instance ty202 : TyA Tryz.prog 202 true 12 := ⟨fun _ => by kernel_rfl, fun _ => by kernel_rfl⟩
instance un202 : Und Tryz.prog 202 (.array 6 201) := ⟨Tryz.underlying202⟩
instance ze202 : ZeroA Tryz.prog 202 (Value.agg #[Value.int .i64 0, Value.int .u64 0, Value.int .i64 0, Value.int .u64 0, Value.int .i64 0, Value.int .u64 0, Value.int .i64 0, Value.int .u64 0, Value.int .i64 0, Value.int .u64 0, Value.int .i64 0, Value.int .u64 0]) := ⟨fun _ => by kernel_rfl⟩
instance in202 : InfoA Tryz.prog 202 (Value.agg #[Value.int .i64 0, Value.int .u64 0, Value.int .i64 0, Value.int .u64 0, Value.int .i64 0, Value.int .u64 0, Value.int .i64 0, Value.int .u64 0, Value.int .i64 0, Value.int .u64 0, Value.int .i64 0, Value.int .u64 0]) 12 96 := ⟨by kernel_rfl⟩
instance ty207 : TyA Tryz.prog 207 false 1 := ⟨fun _ => by kernel_rfl, fun _ => by kernel_rfl⟩
instance un207 : Und Tryz.prog 207 (.pointer 107) := ⟨Tryz.underlying207⟩
instance ze207 : ZeroA Tryz.prog 207 (Value.pointer none) := ⟨fun _ => by kernel_rfl⟩
instance in207 : InfoA Tryz.prog 207 (Value.pointer none) 1 8 := ⟨by kernel_rfl⟩
instance ty221 : TyA Tryz.prog 221 false 1 := ⟨fun _ => by kernel_rfl, fun _ => by kernel_rfl⟩
instance un221 : Und Tryz.prog 221 (.slice 225) := ⟨Tryz.underlying221⟩
instance ze221 : ZeroA Tryz.prog 221 (Value.slice none 0 0) := ⟨fun _ => by kernel_rfl⟩
instance in221 : InfoA Tryz.prog 221 (Value.slice none 0 0) 1 24 := ⟨by kernel_rfl⟩
instance ty224 : TyA Tryz.prog 224 true 2 := ⟨fun _ => by kernel_rfl, fun _ => by kernel_rfl⟩
instance fv224_0 : FieldT Tryz.prog 224 0 3 0 := ⟨by kernel_rfl, by kernel_rfl⟩
instance fv224_1 : FieldT Tryz.prog 224 1 223 1 := ⟨by kernel_rfl, by kernel_rfl⟩
instance fi224_0 : FieldA Tryz.prog 224 0 0 := ⟨fun _ _ _ => by kernel_rfl⟩
instance fi224_1 : FieldA Tryz.prog 224 1 1 := ⟨fun _ _ _ => by kernel_rfl⟩
instance ze224 : ZeroA Tryz.prog 224 (Value.agg #[Value.int .i64 0, Value.nilFunc]) := ⟨fun _ => by kernel_rfl⟩
instance in224 : InfoA Tryz.prog 224 (Value.agg #[Value.int .i64 0, Value.nilFunc]) 2 16 := ⟨by kernel_rfl⟩
instance ty225 : TyA Tryz.prog 225 true 2 := ⟨fun _ => by kernel_rfl, fun _ => by kernel_rfl⟩
instance fv225_0 : FieldT Tryz.prog 225 0 3 0 := ⟨by kernel_rfl, by kernel_rfl⟩
instance fv225_1 : FieldT Tryz.prog 225 1 223 1 := ⟨by kernel_rfl, by kernel_rfl⟩
instance fi225_0 : FieldA Tryz.prog 225 0 0 := ⟨fun _ _ _ => by kernel_rfl⟩
instance fi225_1 : FieldA Tryz.prog 225 1 1 := ⟨fun _ _ _ => by kernel_rfl⟩
instance ze225 : ZeroA Tryz.prog 225 (Value.agg #[Value.int .i64 0, Value.nilFunc]) := ⟨fun _ => by kernel_rfl⟩
instance in225 : InfoA Tryz.prog 225 (Value.agg #[Value.int .i64 0, Value.nilFunc]) 2 16 := ⟨by kernel_rfl⟩
instance ty230 : TyA Tryz.prog 230 false 1 := ⟨fun _ => by kernel_rfl, fun _ => by kernel_rfl⟩
instance ze230 : ZeroA Tryz.prog 230 (Value.nilFunc) := ⟨fun _ => by kernel_rfl⟩
instance in230 : InfoA Tryz.prog 230 (Value.nilFunc) 1 8 := ⟨by kernel_rfl⟩
instance ty235 : TyA Tryz.prog 235 true 2 := ⟨fun _ => by kernel_rfl, fun _ => by kernel_rfl⟩
instance bu235 : BuildA Tryz.prog 235 [(0, 1), (1, 1)] := ⟨by kernel_rfl, by kernel_rfl⟩
instance fv235_0 : FieldT Tryz.prog 235 0 31 0 := ⟨by kernel_rfl, by kernel_rfl⟩
instance fv235_1 : FieldT Tryz.prog 235 1 3 1 := ⟨by kernel_rfl, by kernel_rfl⟩
instance fi235_0 : FieldA Tryz.prog 235 0 0 := ⟨fun _ _ _ => by kernel_rfl⟩
instance fi235_1 : FieldA Tryz.prog 235 1 1 := ⟨fun _ _ _ => by kernel_rfl⟩
instance ze235 : ZeroA Tryz.prog 235 (Value.agg #[Value.slice none 0 0, Value.int .i64 0]) := ⟨fun _ => by kernel_rfl⟩
instance in235 : InfoA Tryz.prog 235 (Value.agg #[Value.slice none 0 0, Value.int .i64 0]) 2 32 := ⟨by kernel_rfl⟩
instance ty236 : TyA Tryz.prog 236 true 2 := ⟨fun _ => by kernel_rfl, fun _ => by kernel_rfl⟩
instance bu236 : BuildA Tryz.prog 236 [(0, 1), (1, 1)] := ⟨by kernel_rfl, by kernel_rfl⟩
instance fv236_0 : FieldT Tryz.prog 236 0 31 0 := ⟨by kernel_rfl, by kernel_rfl⟩
instance fv236_1 : FieldT Tryz.prog 236 1 3 1 := ⟨by kernel_rfl, by kernel_rfl⟩
instance fi236_0 : FieldA Tryz.prog 236 0 0 := ⟨fun _ _ _ => by kernel_rfl⟩
instance fi236_1 : FieldA Tryz.prog 236 1 1 := ⟨fun _ _ _ => by kernel_rfl⟩
instance ze236 : ZeroA Tryz.prog 236 (Value.agg #[Value.slice none 0 0, Value.int .i64 0]) := ⟨fun _ => by kernel_rfl⟩
instance in236 : InfoA Tryz.prog 236 (Value.agg #[Value.slice none 0 0, Value.int .i64 0]) 2 32 := ⟨by kernel_rfl⟩
instance ty246 : TyA Tryz.prog 246 false 1 := ⟨fun _ => by kernel_rfl, fun _ => by kernel_rfl⟩
instance un246 : Und Tryz.prog 246 (.slice 34) := ⟨Tryz.underlying246⟩
instance ze246 : ZeroA Tryz.prog 246 (Value.slice none 0 0) := ⟨fun _ => by kernel_rfl⟩
instance in246 : InfoA Tryz.prog 246 (Value.slice none 0 0) 1 24 := ⟨by kernel_rfl⟩
instance ty251 : TyA Tryz.prog 251 false 1 := ⟨fun _ => by kernel_rfl, fun _ => by kernel_rfl⟩
instance un251 : Und Tryz.prog 251 (.int .u32) := ⟨Tryz.underlying251⟩
instance ze251 : ZeroA Tryz.prog 251 (Value.int .u32 0) := ⟨fun _ => by kernel_rfl⟩
instance in251 : InfoA Tryz.prog 251 (Value.int .u32 0) 1 4 := ⟨by kernel_rfl⟩
instance ty253 : TyA Tryz.prog 253 false 1 := ⟨fun _ => by kernel_rfl, fun _ => by kernel_rfl⟩
instance un253 : Und Tryz.prog 253 (.slice 256) := ⟨Tryz.underlying253⟩
instance ze253 : ZeroA Tryz.prog 253 (Value.slice none 0 0) := ⟨fun _ => by kernel_rfl⟩
instance in253 : InfoA Tryz.prog 253 (Value.slice none 0 0) 1 24 := ⟨by kernel_rfl⟩
instance ty255 : TyA Tryz.prog 255 false 1 := ⟨fun _ => by kernel_rfl, fun _ => by kernel_rfl⟩
instance un255 : Und Tryz.prog 255 (.pointer 158) := ⟨Tryz.underlying255⟩
instance ze255 : ZeroA Tryz.prog 255 (Value.pointer none) := ⟨fun _ => by kernel_rfl⟩
instance in255 : InfoA Tryz.prog 255 (Value.pointer none) 1 8 := ⟨by kernel_rfl⟩
instance ty256 : TyA Tryz.prog 256 false 1 := ⟨fun _ => by kernel_rfl, fun _ => by kernel_rfl⟩
instance un256 : Und Tryz.prog 256 (.pointer 22) := ⟨Tryz.underlying256⟩
instance ze256 : ZeroA Tryz.prog 256 (Value.pointer none) := ⟨fun _ => by kernel_rfl⟩
instance in256 : InfoA Tryz.prog 256 (Value.pointer none) 1 8 := ⟨by kernel_rfl⟩
instance ty262 : TyA Tryz.prog 262 true 16 := ⟨fun _ => by kernel_rfl, fun _ => by kernel_rfl⟩
instance un262 : Und Tryz.prog 262 (.array 16 251) := ⟨Tryz.underlying262⟩
instance ze262 : ZeroA Tryz.prog 262 (Value.agg #[Value.int .u32 0, Value.int .u32 0, Value.int .u32 0, Value.int .u32 0, Value.int .u32 0, Value.int .u32 0, Value.int .u32 0, Value.int .u32 0, Value.int .u32 0, Value.int .u32 0, Value.int .u32 0, Value.int .u32 0, Value.int .u32 0, Value.int .u32 0, Value.int .u32 0, Value.int .u32 0]) := ⟨fun _ => by kernel_rfl⟩
instance in262 : InfoA Tryz.prog 262 (Value.agg #[Value.int .u32 0, Value.int .u32 0, Value.int .u32 0, Value.int .u32 0, Value.int .u32 0, Value.int .u32 0, Value.int .u32 0, Value.int .u32 0, Value.int .u32 0, Value.int .u32 0, Value.int .u32 0, Value.int .u32 0, Value.int .u32 0, Value.int .u32 0, Value.int .u32 0, Value.int .u32 0]) 16 64 := ⟨by kernel_rfl⟩
instance ty265 : TyA Tryz.prog 265 true 4 := ⟨fun _ => by kernel_rfl, fun _ => by kernel_rfl⟩
instance bu265 : BuildA Tryz.prog 265 [(0, 1), (1, 1), (2, 1), (3, 1)] := ⟨by kernel_rfl, by kernel_rfl⟩
instance fv265_0 : FieldT Tryz.prog 265 0 17 0 := ⟨by kernel_rfl, by kernel_rfl⟩
instance fv265_1 : FieldT Tryz.prog 265 1 17 1 := ⟨by kernel_rfl, by kernel_rfl⟩
instance fv265_2 : FieldT Tryz.prog 265 2 17 2 := ⟨by kernel_rfl, by kernel_rfl⟩
instance fv265_3 : FieldT Tryz.prog 265 3 9 3 := ⟨by kernel_rfl, by kernel_rfl⟩
instance fi265_0 : FieldA Tryz.prog 265 0 0 := ⟨fun _ _ _ => by kernel_rfl⟩
instance fi265_1 : FieldA Tryz.prog 265 1 1 := ⟨fun _ _ _ => by kernel_rfl⟩
instance fi265_2 : FieldA Tryz.prog 265 2 2 := ⟨fun _ _ _ => by kernel_rfl⟩
instance fi265_3 : FieldA Tryz.prog 265 3 3 := ⟨fun _ _ _ => by kernel_rfl⟩
instance ze265 : ZeroA Tryz.prog 265 (Value.agg #[Value.pointer none, Value.pointer none, Value.pointer none, Value.string ⟨#[]⟩]) := ⟨fun _ => by kernel_rfl⟩
instance in265 : InfoA Tryz.prog 265 (Value.agg #[Value.pointer none, Value.pointer none, Value.pointer none, Value.string ⟨#[]⟩]) 4 40 := ⟨by kernel_rfl⟩
instance ty266 : TyA Tryz.prog 266 true 4 := ⟨fun _ => by kernel_rfl, fun _ => by kernel_rfl⟩
instance bu266 : BuildA Tryz.prog 266 [(0, 1), (1, 1), (2, 1), (3, 1)] := ⟨by kernel_rfl, by kernel_rfl⟩
instance fv266_0 : FieldT Tryz.prog 266 0 17 0 := ⟨by kernel_rfl, by kernel_rfl⟩
instance fv266_1 : FieldT Tryz.prog 266 1 17 1 := ⟨by kernel_rfl, by kernel_rfl⟩
instance fv266_2 : FieldT Tryz.prog 266 2 17 2 := ⟨by kernel_rfl, by kernel_rfl⟩
instance fv266_3 : FieldT Tryz.prog 266 3 9 3 := ⟨by kernel_rfl, by kernel_rfl⟩
instance fi266_0 : FieldA Tryz.prog 266 0 0 := ⟨fun _ _ _ => by kernel_rfl⟩
instance fi266_1 : FieldA Tryz.prog 266 1 1 := ⟨fun _ _ _ => by kernel_rfl⟩
instance fi266_2 : FieldA Tryz.prog 266 2 2 := ⟨fun _ _ _ => by kernel_rfl⟩
instance fi266_3 : FieldA Tryz.prog 266 3 3 := ⟨fun _ _ _ => by kernel_rfl⟩
instance ze266 : ZeroA Tryz.prog 266 (Value.agg #[Value.pointer none, Value.pointer none, Value.pointer none, Value.string ⟨#[]⟩]) := ⟨fun _ => by kernel_rfl⟩
instance in266 : InfoA Tryz.prog 266 (Value.agg #[Value.pointer none, Value.pointer none, Value.pointer none, Value.string ⟨#[]⟩]) 4 40 := ⟨by kernel_rfl⟩
instance ty270 : TyA Tryz.prog 270 false 1 := ⟨fun _ => by kernel_rfl, fun _ => by kernel_rfl⟩
instance un270 : Und Tryz.prog 270 (.int .u8) := ⟨Tryz.underlying270⟩
instance ze270 : ZeroA Tryz.prog 270 (Value.int .u8 0) := ⟨fun _ => by kernel_rfl⟩
instance in270 : InfoA Tryz.prog 270 (Value.int .u8 0) 1 1 := ⟨by kernel_rfl⟩
instance ty271 : TyA Tryz.prog 271 false 1 := ⟨fun _ => by kernel_rfl, fun _ => by kernel_rfl⟩
instance un271 : Und Tryz.prog 271 (.int .u8) := ⟨Tryz.underlying271⟩
instance ze271 : ZeroA Tryz.prog 271 (Value.int .u8 0) := ⟨fun _ => by kernel_rfl⟩
instance in271 : InfoA Tryz.prog 271 (Value.int .u8 0) 1 1 := ⟨by kernel_rfl⟩
instance ty273 : TyA Tryz.prog 273 false 1 := ⟨fun _ => by kernel_rfl, fun _ => by kernel_rfl⟩
instance un273 : Und Tryz.prog 273 (.pointer 5) := ⟨Tryz.underlying273⟩
instance ze273 : ZeroA Tryz.prog 273 (Value.pointer none) := ⟨fun _ => by kernel_rfl⟩
instance in273 : InfoA Tryz.prog 273 (Value.pointer none) 1 8 := ⟨by kernel_rfl⟩
instance ty274 : TyA Tryz.prog 274 false 1 := ⟨fun _ => by kernel_rfl, fun _ => by kernel_rfl⟩
instance un274 : Und Tryz.prog 274 (.int .i32) := ⟨Tryz.underlying274⟩
instance ze274 : ZeroA Tryz.prog 274 (Value.int .i32 0) := ⟨fun _ => by kernel_rfl⟩
instance in274 : InfoA Tryz.prog 274 (Value.int .i32 0) 1 4 := ⟨by kernel_rfl⟩
instance ty275 : TyA Tryz.prog 275 false 1 := ⟨fun _ => by kernel_rfl, fun _ => by kernel_rfl⟩
instance un275 : Und Tryz.prog 275 (.int .i32) := ⟨Tryz.underlying275⟩
instance ze275 : ZeroA Tryz.prog 275 (Value.int .i32 0) := ⟨fun _ => by kernel_rfl⟩
instance in275 : InfoA Tryz.prog 275 (Value.int .i32 0) 1 4 := ⟨by kernel_rfl⟩
instance ty276 : TyA Tryz.prog 276 true 11 := ⟨fun _ => by kernel_rfl, fun _ => by kernel_rfl⟩
instance fv276_0 : FieldT Tryz.prog 276 0 12 0 := ⟨by kernel_rfl, by kernel_rfl⟩
instance fv276_1 : FieldT Tryz.prog 276 1 12 1 := ⟨by kernel_rfl, by kernel_rfl⟩
instance fv276_2 : FieldT Tryz.prog 276 2 251 2 := ⟨by kernel_rfl, by kernel_rfl⟩
instance fv276_3 : FieldT Tryz.prog 276 3 270 3 := ⟨by kernel_rfl, by kernel_rfl⟩
instance fv276_4 : FieldT Tryz.prog 276 4 5 4 := ⟨by kernel_rfl, by kernel_rfl⟩
instance fv276_5 : FieldT Tryz.prog 276 5 5 5 := ⟨by kernel_rfl, by kernel_rfl⟩
instance fv276_6 : FieldT Tryz.prog 276 6 271 6 := ⟨by kernel_rfl, by kernel_rfl⟩
instance fv276_7 : FieldT Tryz.prog 276 7 272 7 := ⟨by kernel_rfl, by kernel_rfl⟩
instance fv276_8 : FieldT Tryz.prog 276 8 273 8 := ⟨by kernel_rfl, by kernel_rfl⟩
instance fv276_9 : FieldT Tryz.prog 276 9 274 9 := ⟨by kernel_rfl, by kernel_rfl⟩
instance fv276_10 : FieldT Tryz.prog 276 10 275 10 := ⟨by kernel_rfl, by kernel_rfl⟩
instance fi276_0 : FieldA Tryz.prog 276 0 0 := ⟨fun _ _ _ => by kernel_rfl⟩
instance fi276_1 : FieldA Tryz.prog 276 1 1 := ⟨fun _ _ _ => by kernel_rfl⟩
instance fi276_2 : FieldA Tryz.prog 276 2 2 := ⟨fun _ _ _ => by kernel_rfl⟩
instance fi276_3 : FieldA Tryz.prog 276 3 3 := ⟨fun _ _ _ => by kernel_rfl⟩
instance fi276_4 : FieldA Tryz.prog 276 4 4 := ⟨fun _ _ _ => by kernel_rfl⟩
instance fi276_5 : FieldA Tryz.prog 276 5 5 := ⟨fun _ _ _ => by kernel_rfl⟩
instance fi276_6 : FieldA Tryz.prog 276 6 6 := ⟨fun _ _ _ => by kernel_rfl⟩
instance fi276_7 : FieldA Tryz.prog 276 7 7 := ⟨fun _ _ _ => by kernel_rfl⟩
instance fi276_8 : FieldA Tryz.prog 276 8 8 := ⟨fun _ _ _ => by kernel_rfl⟩
instance fi276_9 : FieldA Tryz.prog 276 9 9 := ⟨fun _ _ _ => by kernel_rfl⟩
instance fi276_10 : FieldA Tryz.prog 276 10 10 := ⟨fun _ _ _ => by kernel_rfl⟩
instance ze276 : ZeroA Tryz.prog 276 (Value.agg #[Value.int .u64 0, Value.int .u64 0, Value.int .u32 0, Value.int .u8 0, Value.int .u8 0, Value.int .u8 0, Value.int .u8 0, Value.nilFunc, Value.pointer none, Value.int .i32 0, Value.int .i32 0]) := ⟨fun _ => by kernel_rfl⟩
instance in276 : InfoA Tryz.prog 276 (Value.agg #[Value.int .u64 0, Value.int .u64 0, Value.int .u32 0, Value.int .u8 0, Value.int .u8 0, Value.int .u8 0, Value.int .u8 0, Value.nilFunc, Value.pointer none, Value.int .i32 0, Value.int .i32 0]) 11 48 := ⟨by kernel_rfl⟩
instance ty277 : TyA Tryz.prog 277 true 11 := ⟨fun _ => by kernel_rfl, fun _ => by kernel_rfl⟩
instance fv277_0 : FieldT Tryz.prog 277 0 12 0 := ⟨by kernel_rfl, by kernel_rfl⟩
instance fv277_1 : FieldT Tryz.prog 277 1 12 1 := ⟨by kernel_rfl, by kernel_rfl⟩
instance fv277_2 : FieldT Tryz.prog 277 2 251 2 := ⟨by kernel_rfl, by kernel_rfl⟩
instance fv277_3 : FieldT Tryz.prog 277 3 270 3 := ⟨by kernel_rfl, by kernel_rfl⟩
instance fv277_4 : FieldT Tryz.prog 277 4 5 4 := ⟨by kernel_rfl, by kernel_rfl⟩
instance fv277_5 : FieldT Tryz.prog 277 5 5 5 := ⟨by kernel_rfl, by kernel_rfl⟩
instance fv277_6 : FieldT Tryz.prog 277 6 271 6 := ⟨by kernel_rfl, by kernel_rfl⟩
instance fv277_7 : FieldT Tryz.prog 277 7 272 7 := ⟨by kernel_rfl, by kernel_rfl⟩
instance fv277_8 : FieldT Tryz.prog 277 8 273 8 := ⟨by kernel_rfl, by kernel_rfl⟩
instance fv277_9 : FieldT Tryz.prog 277 9 274 9 := ⟨by kernel_rfl, by kernel_rfl⟩
instance fv277_10 : FieldT Tryz.prog 277 10 275 10 := ⟨by kernel_rfl, by kernel_rfl⟩
instance fi277_0 : FieldA Tryz.prog 277 0 0 := ⟨fun _ _ _ => by kernel_rfl⟩
instance fi277_1 : FieldA Tryz.prog 277 1 1 := ⟨fun _ _ _ => by kernel_rfl⟩
instance fi277_2 : FieldA Tryz.prog 277 2 2 := ⟨fun _ _ _ => by kernel_rfl⟩
instance fi277_3 : FieldA Tryz.prog 277 3 3 := ⟨fun _ _ _ => by kernel_rfl⟩
instance fi277_4 : FieldA Tryz.prog 277 4 4 := ⟨fun _ _ _ => by kernel_rfl⟩
instance fi277_5 : FieldA Tryz.prog 277 5 5 := ⟨fun _ _ _ => by kernel_rfl⟩
instance fi277_6 : FieldA Tryz.prog 277 6 6 := ⟨fun _ _ _ => by kernel_rfl⟩
instance fi277_7 : FieldA Tryz.prog 277 7 7 := ⟨fun _ _ _ => by kernel_rfl⟩
instance fi277_8 : FieldA Tryz.prog 277 8 8 := ⟨fun _ _ _ => by kernel_rfl⟩
instance fi277_9 : FieldA Tryz.prog 277 9 9 := ⟨fun _ _ _ => by kernel_rfl⟩
instance fi277_10 : FieldA Tryz.prog 277 10 10 := ⟨fun _ _ _ => by kernel_rfl⟩
instance ze277 : ZeroA Tryz.prog 277 (Value.agg #[Value.int .u64 0, Value.int .u64 0, Value.int .u32 0, Value.int .u8 0, Value.int .u8 0, Value.int .u8 0, Value.int .u8 0, Value.nilFunc, Value.pointer none, Value.int .i32 0, Value.int .i32 0]) := ⟨fun _ => by kernel_rfl⟩
instance in277 : InfoA Tryz.prog 277 (Value.agg #[Value.int .u64 0, Value.int .u64 0, Value.int .u32 0, Value.int .u8 0, Value.int .u8 0, Value.int .u8 0, Value.int .u8 0, Value.nilFunc, Value.pointer none, Value.int .i32 0, Value.int .i32 0]) 11 48 := ⟨by kernel_rfl⟩
instance hf3 : HasFn Tryz.prog 3 := ⟨fun _ _ => by kernel_rfl⟩
instance hf4 : HasFn Tryz.prog 4 := ⟨fun _ _ => by kernel_rfl⟩
instance hf5 : HasFn Tryz.prog 5 := ⟨fun _ _ => by kernel_rfl⟩
instance hf6 : HasFn Tryz.prog 6 := ⟨fun _ _ => by kernel_rfl⟩
instance hf7 : HasFn Tryz.prog 7 := ⟨fun _ _ => by kernel_rfl⟩
instance hf8 : HasFn Tryz.prog 8 := ⟨fun _ _ => by kernel_rfl⟩
instance hf9 : HasFn Tryz.prog 9 := ⟨fun _ _ => by kernel_rfl⟩
instance hf10 : HasFn Tryz.prog 10 := ⟨fun _ _ => by kernel_rfl⟩
instance hf11 : HasFn Tryz.prog 11 := ⟨fun _ _ => by kernel_rfl⟩
instance hf12 : HasFn Tryz.prog 12 := ⟨fun _ _ => by kernel_rfl⟩
instance hf13 : HasFn Tryz.prog 13 := ⟨fun _ _ => by kernel_rfl⟩
instance hf14 : HasFn Tryz.prog 14 := ⟨fun _ _ => by kernel_rfl⟩
instance hf15 : HasFn Tryz.prog 15 := ⟨fun _ _ => by kernel_rfl⟩
instance hf16 : HasFn Tryz.prog 16 := ⟨fun _ _ => by kernel_rfl⟩
instance hf17 : HasFn Tryz.prog 17 := ⟨fun _ _ => by kernel_rfl⟩
instance hf18 : HasFn Tryz.prog 18 := ⟨fun _ _ => by kernel_rfl⟩
instance hf19 : HasFn Tryz.prog 19 := ⟨fun _ _ => by kernel_rfl⟩
instance hf20 : HasFn Tryz.prog 20 := ⟨fun _ _ => by kernel_rfl⟩
instance hf21 : HasFn Tryz.prog 21 := ⟨fun _ _ => by kernel_rfl⟩
instance hf22 : HasFn Tryz.prog 22 := ⟨fun _ _ => by kernel_rfl⟩
instance hf23 : HasFn Tryz.prog 23 := ⟨fun _ _ => by kernel_rfl⟩
instance hf24 : HasFn Tryz.prog 24 := ⟨fun _ _ => by kernel_rfl⟩
instance hf25 : HasFn Tryz.prog 25 := ⟨fun _ _ => by kernel_rfl⟩
instance hf26 : HasFn Tryz.prog 26 := ⟨fun _ _ => by kernel_rfl⟩
instance hf27 : HasFn Tryz.prog 27 := ⟨fun _ _ => by kernel_rfl⟩
instance hf28 : HasFn Tryz.prog 28 := ⟨fun _ _ => by kernel_rfl⟩
instance hf29 : HasFn Tryz.prog 29 := ⟨fun _ _ => by kernel_rfl⟩
instance hf30 : HasFn Tryz.prog 30 := ⟨fun _ _ => by kernel_rfl⟩
instance hf31 : HasFn Tryz.prog 31 := ⟨fun _ _ => by kernel_rfl⟩
instance hf32 : HasFn Tryz.prog 32 := ⟨fun _ _ => by kernel_rfl⟩
instance hf33 : HasFn Tryz.prog 33 := ⟨fun _ _ => by kernel_rfl⟩
instance hf34 : HasFn Tryz.prog 34 := ⟨fun _ _ => by kernel_rfl⟩
instance hf35 : HasFn Tryz.prog 35 := ⟨fun _ _ => by kernel_rfl⟩
instance hf36 : HasFn Tryz.prog 36 := ⟨fun _ _ => by kernel_rfl⟩
instance hf37 : HasFn Tryz.prog 37 := ⟨fun _ _ => by kernel_rfl⟩
instance hf38 : HasFn Tryz.prog 38 := ⟨fun _ _ => by kernel_rfl⟩
instance hf39 : HasFn Tryz.prog 39 := ⟨fun _ _ => by kernel_rfl⟩
instance hf40 : HasFn Tryz.prog 40 := ⟨fun _ _ => by kernel_rfl⟩
instance hf41 : HasFn Tryz.prog 41 := ⟨fun _ _ => by kernel_rfl⟩
instance hf42 : HasFn Tryz.prog 42 := ⟨fun _ _ => by kernel_rfl⟩
instance hf43 : HasFn Tryz.prog 43 := ⟨fun _ _ => by kernel_rfl⟩
instance hf44 : HasFn Tryz.prog 44 := ⟨fun _ _ => by kernel_rfl⟩
instance hf45 : HasFn Tryz.prog 45 := ⟨fun _ _ => by kernel_rfl⟩
instance hf46 : HasFn Tryz.prog 46 := ⟨fun _ _ => by kernel_rfl⟩
instance hf47 : HasFn Tryz.prog 47 := ⟨fun _ _ => by kernel_rfl⟩
instance hf48 : HasFn Tryz.prog 48 := ⟨fun _ _ => by kernel_rfl⟩
instance hf49 : HasFn Tryz.prog 49 := ⟨fun _ _ => by kernel_rfl⟩
instance hf50 : HasFn Tryz.prog 50 := ⟨fun _ _ => by kernel_rfl⟩
instance hf51 : HasFn Tryz.prog 51 := ⟨fun _ _ => by kernel_rfl⟩
instance hf52 : HasFn Tryz.prog 52 := ⟨fun _ _ => by kernel_rfl⟩
instance hf53 : HasFn Tryz.prog 53 := ⟨fun _ _ => by kernel_rfl⟩
instance hf54 : HasFn Tryz.prog 54 := ⟨fun _ _ => by kernel_rfl⟩
instance hf55 : HasFn Tryz.prog 55 := ⟨fun _ _ => by kernel_rfl⟩
instance hf56 : HasFn Tryz.prog 56 := ⟨fun _ _ => by kernel_rfl⟩
instance hf57 : HasFn Tryz.prog 57 := ⟨fun _ _ => by kernel_rfl⟩
instance hf58 : HasFn Tryz.prog 58 := ⟨fun _ _ => by kernel_rfl⟩
instance hf59 : HasFn Tryz.prog 59 := ⟨fun _ _ => by kernel_rfl⟩
instance hf60 : HasFn Tryz.prog 60 := ⟨fun _ _ => by kernel_rfl⟩
instance hf61 : HasFn Tryz.prog 61 := ⟨fun _ _ => by kernel_rfl⟩
instance hf62 : HasFn Tryz.prog 62 := ⟨fun _ _ => by kernel_rfl⟩
instance hf63 : HasFn Tryz.prog 63 := ⟨fun _ _ => by kernel_rfl⟩
instance hf64 : HasFn Tryz.prog 64 := ⟨fun _ _ => by kernel_rfl⟩
instance hf65 : HasFn Tryz.prog 65 := ⟨fun _ _ => by kernel_rfl⟩
instance hf66 : HasFn Tryz.prog 66 := ⟨fun _ _ => by kernel_rfl⟩
instance hf67 : HasFn Tryz.prog 67 := ⟨fun _ _ => by kernel_rfl⟩
instance hf68 : HasFn Tryz.prog 68 := ⟨fun _ _ => by kernel_rfl⟩
instance hf69 : HasFn Tryz.prog 69 := ⟨fun _ _ => by kernel_rfl⟩
instance hf70 : HasFn Tryz.prog 70 := ⟨fun _ _ => by kernel_rfl⟩
instance hf71 : HasFn Tryz.prog 71 := ⟨fun _ _ => by kernel_rfl⟩
instance hf72 : HasFn Tryz.prog 72 := ⟨fun _ _ => by kernel_rfl⟩
instance hf73 : HasFn Tryz.prog 73 := ⟨fun _ _ => by kernel_rfl⟩
instance hf74 : HasFn Tryz.prog 74 := ⟨fun _ _ => by kernel_rfl⟩
instance hf75 : HasFn Tryz.prog 75 := ⟨fun _ _ => by kernel_rfl⟩
instance hf76 : HasFn Tryz.prog 76 := ⟨fun _ _ => by kernel_rfl⟩
instance hf77 : HasFn Tryz.prog 77 := ⟨fun _ _ => by kernel_rfl⟩
instance hf78 : HasFn Tryz.prog 78 := ⟨fun _ _ => by kernel_rfl⟩
instance hf79 : HasFn Tryz.prog 79 := ⟨fun _ _ => by kernel_rfl⟩
instance hf80 : HasFn Tryz.prog 80 := ⟨fun _ _ => by kernel_rfl⟩
instance hf81 : HasFn Tryz.prog 81 := ⟨fun _ _ => by kernel_rfl⟩
instance hf82 : HasFn Tryz.prog 82 := ⟨fun _ _ => by kernel_rfl⟩
instance hf83 : HasFn Tryz.prog 83 := ⟨fun _ _ => by kernel_rfl⟩
instance hf84 : HasFn Tryz.prog 84 := ⟨fun _ _ => by kernel_rfl⟩
instance hf85 : HasFn Tryz.prog 85 := ⟨fun _ _ => by kernel_rfl⟩
instance hf86 : HasFn Tryz.prog 86 := ⟨fun _ _ => by kernel_rfl⟩
instance hf87 : HasFn Tryz.prog 87 := ⟨fun _ _ => by kernel_rfl⟩
instance hf88 : HasFn Tryz.prog 88 := ⟨fun _ _ => by kernel_rfl⟩
instance hf89 : HasFn Tryz.prog 89 := ⟨fun _ _ => by kernel_rfl⟩
instance hf90 : HasFn Tryz.prog 90 := ⟨fun _ _ => by kernel_rfl⟩
instance hf91 : HasFn Tryz.prog 91 := ⟨fun _ _ => by kernel_rfl⟩
instance hf92 : HasFn Tryz.prog 92 := ⟨fun _ _ => by kernel_rfl⟩
instance hf93 : HasFn Tryz.prog 93 := ⟨fun _ _ => by kernel_rfl⟩
instance hf94 : HasFn Tryz.prog 94 := ⟨fun _ _ => by kernel_rfl⟩
instance hf95 : HasFn Tryz.prog 95 := ⟨fun _ _ => by kernel_rfl⟩
instance hf96 : HasFn Tryz.prog 96 := ⟨fun _ _ => by kernel_rfl⟩
instance hf97 : HasFn Tryz.prog 97 := ⟨fun _ _ => by kernel_rfl⟩
instance hf98 : HasFn Tryz.prog 98 := ⟨fun _ _ => by kernel_rfl⟩
instance hf99 : HasFn Tryz.prog 99 := ⟨fun _ _ => by kernel_rfl⟩
instance hf100 : HasFn Tryz.prog 100 := ⟨fun _ _ => by kernel_rfl⟩
instance hf101 : HasFn Tryz.prog 101 := ⟨fun _ _ => by kernel_rfl⟩
instance hf102 : HasFn Tryz.prog 102 := ⟨fun _ _ => by kernel_rfl⟩
instance hf103 : HasFn Tryz.prog 103 := ⟨fun _ _ => by kernel_rfl⟩
instance hf104 : HasFn Tryz.prog 104 := ⟨fun _ _ => by kernel_rfl⟩
instance hf105 : HasFn Tryz.prog 105 := ⟨fun _ _ => by kernel_rfl⟩
instance hf106 : HasFn Tryz.prog 106 := ⟨fun _ _ => by kernel_rfl⟩
instance hf107 : HasFn Tryz.prog 107 := ⟨fun _ _ => by kernel_rfl⟩
instance hf108 : HasFn Tryz.prog 108 := ⟨fun _ _ => by kernel_rfl⟩
instance hf109 : HasFn Tryz.prog 109 := ⟨fun _ _ => by kernel_rfl⟩
instance hf110 : HasFn Tryz.prog 110 := ⟨fun _ _ => by kernel_rfl⟩
instance hf111 : HasFn Tryz.prog 111 := ⟨fun _ _ => by kernel_rfl⟩
instance hf112 : HasFn Tryz.prog 112 := ⟨fun _ _ => by kernel_rfl⟩
instance hf113 : HasFn Tryz.prog 113 := ⟨fun _ _ => by kernel_rfl⟩
instance hf114 : HasFn Tryz.prog 114 := ⟨fun _ _ => by kernel_rfl⟩
instance hf115 : HasFn Tryz.prog 115 := ⟨fun _ _ => by kernel_rfl⟩
instance hf116 : HasFn Tryz.prog 116 := ⟨fun _ _ => by kernel_rfl⟩
instance hf117 : HasFn Tryz.prog 117 := ⟨fun _ _ => by kernel_rfl⟩
instance hf118 : HasFn Tryz.prog 118 := ⟨fun _ _ => by kernel_rfl⟩
instance hf119 : HasFn Tryz.prog 119 := ⟨fun _ _ => by kernel_rfl⟩
instance hf120 : HasFn Tryz.prog 120 := ⟨fun _ _ => by kernel_rfl⟩
instance hf121 : HasFn Tryz.prog 121 := ⟨fun _ _ => by kernel_rfl⟩
instance hf122 : HasFn Tryz.prog 122 := ⟨fun _ _ => by kernel_rfl⟩
instance hf123 : HasFn Tryz.prog 123 := ⟨fun _ _ => by kernel_rfl⟩
instance hf124 : HasFn Tryz.prog 124 := ⟨fun _ _ => by kernel_rfl⟩
instance hf125 : HasFn Tryz.prog 125 := ⟨fun _ _ => by kernel_rfl⟩
instance hf126 : HasFn Tryz.prog 126 := ⟨fun _ _ => by kernel_rfl⟩
instance hf127 : HasFn Tryz.prog 127 := ⟨fun _ _ => by kernel_rfl⟩
instance hf128 : HasFn Tryz.prog 128 := ⟨fun _ _ => by kernel_rfl⟩
instance hf129 : HasFn Tryz.prog 129 := ⟨fun _ _ => by kernel_rfl⟩
instance hf130 : HasFn Tryz.prog 130 := ⟨fun _ _ => by kernel_rfl⟩
instance hf131 : HasFn Tryz.prog 131 := ⟨fun _ _ => by kernel_rfl⟩
instance hf132 : HasFn Tryz.prog 132 := ⟨fun _ _ => by kernel_rfl⟩
instance hf133 : HasFn Tryz.prog 133 := ⟨fun _ _ => by kernel_rfl⟩
instance hf134 : HasFn Tryz.prog 134 := ⟨fun _ _ => by kernel_rfl⟩
instance hf135 : HasFn Tryz.prog 135 := ⟨fun _ _ => by kernel_rfl⟩
instance hf136 : HasFn Tryz.prog 136 := ⟨fun _ _ => by kernel_rfl⟩
instance hf137 : HasFn Tryz.prog 137 := ⟨fun _ _ => by kernel_rfl⟩
instance hf138 : HasFn Tryz.prog 138 := ⟨fun _ _ => by kernel_rfl⟩
instance hf139 : HasFn Tryz.prog 139 := ⟨fun _ _ => by kernel_rfl⟩
instance hf140 : HasFn Tryz.prog 140 := ⟨fun _ _ => by kernel_rfl⟩
instance hf141 : HasFn Tryz.prog 141 := ⟨fun _ _ => by kernel_rfl⟩
instance hf142 : HasFn Tryz.prog 142 := ⟨fun _ _ => by kernel_rfl⟩
instance hf143 : HasFn Tryz.prog 143 := ⟨fun _ _ => by kernel_rfl⟩
instance hf144 : HasFn Tryz.prog 144 := ⟨fun _ _ => by kernel_rfl⟩
instance hf145 : HasFn Tryz.prog 145 := ⟨fun _ _ => by kernel_rfl⟩
instance hf146 : HasFn Tryz.prog 146 := ⟨fun _ _ => by kernel_rfl⟩
instance hf147 : HasFn Tryz.prog 147 := ⟨fun _ _ => by kernel_rfl⟩
instance hf148 : HasFn Tryz.prog 148 := ⟨fun _ _ => by kernel_rfl⟩
instance hf149 : HasFn Tryz.prog 149 := ⟨fun _ _ => by kernel_rfl⟩
instance hf150 : HasFn Tryz.prog 150 := ⟨fun _ _ => by kernel_rfl⟩
instance hf151 : HasFn Tryz.prog 151 := ⟨fun _ _ => by kernel_rfl⟩
instance hf152 : HasFn Tryz.prog 152 := ⟨fun _ _ => by kernel_rfl⟩
instance hf153 : HasFn Tryz.prog 153 := ⟨fun _ _ => by kernel_rfl⟩
instance hf154 : HasFn Tryz.prog 154 := ⟨fun _ _ => by kernel_rfl⟩
instance hf155 : HasFn Tryz.prog 155 := ⟨fun _ _ => by kernel_rfl⟩
instance hf156 : HasFn Tryz.prog 156 := ⟨fun _ _ => by kernel_rfl⟩
instance hf157 : HasFn Tryz.prog 157 := ⟨fun _ _ => by kernel_rfl⟩
instance hf158 : HasFn Tryz.prog 158 := ⟨fun _ _ => by kernel_rfl⟩
instance hf159 : HasFn Tryz.prog 159 := ⟨fun _ _ => by kernel_rfl⟩
instance hf160 : HasFn Tryz.prog 160 := ⟨fun _ _ => by kernel_rfl⟩
instance hf161 : HasFn Tryz.prog 161 := ⟨fun _ _ => by kernel_rfl⟩
instance hf162 : HasFn Tryz.prog 162 := ⟨fun _ _ => by kernel_rfl⟩
instance hf163 : HasFn Tryz.prog 163 := ⟨fun _ _ => by kernel_rfl⟩
instance hf164 : HasFn Tryz.prog 164 := ⟨fun _ _ => by kernel_rfl⟩
instance hf165 : HasFn Tryz.prog 165 := ⟨fun _ _ => by kernel_rfl⟩
instance hf166 : HasFn Tryz.prog 166 := ⟨fun _ _ => by kernel_rfl⟩
instance hf167 : HasFn Tryz.prog 167 := ⟨fun _ _ => by kernel_rfl⟩
instance hf168 : HasFn Tryz.prog 168 := ⟨fun _ _ => by kernel_rfl⟩
instance hf169 : HasFn Tryz.prog 169 := ⟨fun _ _ => by kernel_rfl⟩
instance hf170 : HasFn Tryz.prog 170 := ⟨fun _ _ => by kernel_rfl⟩
instance hf171 : HasFn Tryz.prog 171 := ⟨fun _ _ => by kernel_rfl⟩
instance hf172 : HasFn Tryz.prog 172 := ⟨fun _ _ => by kernel_rfl⟩
instance hf173 : HasFn Tryz.prog 173 := ⟨fun _ _ => by kernel_rfl⟩
instance hf174 : HasFn Tryz.prog 174 := ⟨fun _ _ => by kernel_rfl⟩
instance hf175 : HasFn Tryz.prog 175 := ⟨fun _ _ => by kernel_rfl⟩
instance hf176 : HasFn Tryz.prog 176 := ⟨fun _ _ => by kernel_rfl⟩
instance hf177 : HasFn Tryz.prog 177 := ⟨fun _ _ => by kernel_rfl⟩
instance hf178 : HasFn Tryz.prog 178 := ⟨fun _ _ => by kernel_rfl⟩
instance hf179 : HasFn Tryz.prog 179 := ⟨fun _ _ => by kernel_rfl⟩
instance hf180 : HasFn Tryz.prog 180 := ⟨fun _ _ => by kernel_rfl⟩
instance hf181 : HasFn Tryz.prog 181 := ⟨fun _ _ => by kernel_rfl⟩
instance hf182 : HasFn Tryz.prog 182 := ⟨fun _ _ => by kernel_rfl⟩
instance hf183 : HasFn Tryz.prog 183 := ⟨fun _ _ => by kernel_rfl⟩
instance hf184 : HasFn Tryz.prog 184 := ⟨fun _ _ => by kernel_rfl⟩
instance hf185 : HasFn Tryz.prog 185 := ⟨fun _ _ => by kernel_rfl⟩
instance hf186 : HasFn Tryz.prog 186 := ⟨fun _ _ => by kernel_rfl⟩
instance hf187 : HasFn Tryz.prog 187 := ⟨fun _ _ => by kernel_rfl⟩
instance hf188 : HasFn Tryz.prog 188 := ⟨fun _ _ => by kernel_rfl⟩
instance hf189 : HasFn Tryz.prog 189 := ⟨fun _ _ => by kernel_rfl⟩
instance hf190 : HasFn Tryz.prog 190 := ⟨fun _ _ => by kernel_rfl⟩
instance hf191 : HasFn Tryz.prog 191 := ⟨fun _ _ => by kernel_rfl⟩
instance hf192 : HasFn Tryz.prog 192 := ⟨fun _ _ => by kernel_rfl⟩
instance hf193 : HasFn Tryz.prog 193 := ⟨fun _ _ => by kernel_rfl⟩
instance hf194 : HasFn Tryz.prog 194 := ⟨fun _ _ => by kernel_rfl⟩
instance hf195 : HasFn Tryz.prog 195 := ⟨fun _ _ => by kernel_rfl⟩
instance hf196 : HasFn Tryz.prog 196 := ⟨fun _ _ => by kernel_rfl⟩
instance hf197 : HasFn Tryz.prog 197 := ⟨fun _ _ => by kernel_rfl⟩
instance hf198 : HasFn Tryz.prog 198 := ⟨fun _ _ => by kernel_rfl⟩
instance hf199 : HasFn Tryz.prog 199 := ⟨fun _ _ => by kernel_rfl⟩
instance hf200 : HasFn Tryz.prog 200 := ⟨fun _ _ => by kernel_rfl⟩
instance hf201 : HasFn Tryz.prog 201 := ⟨fun _ _ => by kernel_rfl⟩
instance hf202 : HasFn Tryz.prog 202 := ⟨fun _ _ => by kernel_rfl⟩
instance hf203 : HasFn Tryz.prog 203 := ⟨fun _ _ => by kernel_rfl⟩
instance hf204 : HasFn Tryz.prog 204 := ⟨fun _ _ => by kernel_rfl⟩
instance hf205 : HasFn Tryz.prog 205 := ⟨fun _ _ => by kernel_rfl⟩
instance hf206 : HasFn Tryz.prog 206 := ⟨fun _ _ => by kernel_rfl⟩
instance hf207 : HasFn Tryz.prog 207 := ⟨fun _ _ => by kernel_rfl⟩
instance hf208 : HasFn Tryz.prog 208 := ⟨fun _ _ => by kernel_rfl⟩
instance hf209 : HasFn Tryz.prog 209 := ⟨fun _ _ => by kernel_rfl⟩
instance hf210 : HasFn Tryz.prog 210 := ⟨fun _ _ => by kernel_rfl⟩
instance hf211 : HasFn Tryz.prog 211 := ⟨fun _ _ => by kernel_rfl⟩
instance hf212 : HasFn Tryz.prog 212 := ⟨fun _ _ => by kernel_rfl⟩
instance hf213 : HasFn Tryz.prog 213 := ⟨fun _ _ => by kernel_rfl⟩
instance hf214 : HasFn Tryz.prog 214 := ⟨fun _ _ => by kernel_rfl⟩
instance hf215 : HasFn Tryz.prog 215 := ⟨fun _ _ => by kernel_rfl⟩
instance hf216 : HasFn Tryz.prog 216 := ⟨fun _ _ => by kernel_rfl⟩
instance hf217 : HasFn Tryz.prog 217 := ⟨fun _ _ => by kernel_rfl⟩
instance hf218 : HasFn Tryz.prog 218 := ⟨fun _ _ => by kernel_rfl⟩
instance hf219 : HasFn Tryz.prog 219 := ⟨fun _ _ => by kernel_rfl⟩
instance hf220 : HasFn Tryz.prog 220 := ⟨fun _ _ => by kernel_rfl⟩
instance hf221 : HasFn Tryz.prog 221 := ⟨fun _ _ => by kernel_rfl⟩
instance hf222 : HasFn Tryz.prog 222 := ⟨fun _ _ => by kernel_rfl⟩
instance hf223 : HasFn Tryz.prog 223 := ⟨fun _ _ => by kernel_rfl⟩
instance hf224 : HasFn Tryz.prog 224 := ⟨fun _ _ => by kernel_rfl⟩
instance hf225 : HasFn Tryz.prog 225 := ⟨fun _ _ => by kernel_rfl⟩
instance hf226 : HasFn Tryz.prog 226 := ⟨fun _ _ => by kernel_rfl⟩
instance hf227 : HasFn Tryz.prog 227 := ⟨fun _ _ => by kernel_rfl⟩
instance hf228 : HasFn Tryz.prog 228 := ⟨fun _ _ => by kernel_rfl⟩
instance hf229 : HasFn Tryz.prog 229 := ⟨fun _ _ => by kernel_rfl⟩
instance hf230 : HasFn Tryz.prog 230 := ⟨fun _ _ => by kernel_rfl⟩
instance hf231 : HasFn Tryz.prog 231 := ⟨fun _ _ => by kernel_rfl⟩
instance hf232 : HasFn Tryz.prog 232 := ⟨fun _ _ => by kernel_rfl⟩
instance hf233 : HasFn Tryz.prog 233 := ⟨fun _ _ => by kernel_rfl⟩
instance hf235 : HasFn Tryz.prog 235 := ⟨fun _ _ => by kernel_rfl⟩
instance hf236 : HasFn Tryz.prog 236 := ⟨fun _ _ => by kernel_rfl⟩
instance hf237 : HasFn Tryz.prog 237 := ⟨fun _ _ => by kernel_rfl⟩
instance hf257 : HasFn Tryz.prog 257 := ⟨fun _ _ => by kernel_rfl⟩
end Go.Proofs.YtohlllohmoojiaaGreatDoor
/- What makes accesses, told by a log: the closure of play.Run; and play's accesses. -/
namespace Go.Proofs.YtohlllohmoojiaaGreatDoor
set_option maxRecDepth 100000
set_option maxHeartbeats 16000000
open Go Go.RowKit
set_option linter.unusedSimpArgs false
attribute [local irreducible] zY zZ Step zK Sub zS zH Fn
/-- a result, as a log tells it -/
structure yE where
  n : Int
  b : PV
  fail : Bool
def qR (r : yE) : PV := .agg [.val (.int .u64 r.n), r.b, .val (.bool r.fail)]
def logV (L : List yE) : PV := .sl (L.map qR)
/-- an access -/
def accV (kind cell a b : Int) (data : PV) : PV := .agg [.val (.int .i64 kind), .val (.int .i64 cell), .val (.int .u64 a), .val (.int .u64 b), data, .val (.slice none 0 0)]
def xW : PV := .val (.slice none 0 0)
def atB (i : Nat) : Blk := .box 3 [.p (.val (.int .i64 i))]
def logB (L : List yE) : Blk := .box 25 [.p (logV L)]
def DoB (L : List yE) (i : Nat) : List Blk := [atB i, logB L]
/-- the closure -/
def doA : AV := .clo 74 [1000, 1001]
theorem resV_cells (L : List yE) : ∀ e ∈ L.map qR, e.cells.length = 3 := fun e he => by
  obtain ⟨r, _, rfl⟩ := List.mem_map.1 he
  rfl
/-- what is panicked with: the access that isn't told -/
def needA (acc : PV) : AV := .p (.ifc 129 acc)
end Go.Proofs.YtohlllohmoojiaaGreatDoor
/- An access, as it is kept. -/
namespace Go.Proofs.YtohlllohmoojiaaGreatDoor
set_option maxRecDepth 100000
set_option maxHeartbeats 16000000
open Go Go.RowKit
/-- an access, as it is kept -/
structure Ned where
  kind : Int
  cell : Int
  a : Int
  b : Int
  d : PV
  w : PV
def qJ (kind cell a b : Int) (d : PV) : Ned := ⟨kind, cell, a, b, d, xW⟩
def isB (b : Bool) : Blk := .box 4 [.p (.val (.bool b))]
end Go.Proofs.YtohlllohmoojiaaGreatDoor
/- The check of bytes: plain laws. -/
namespace Go.Proofs.YtohlllohmoojiaaGreatDoor
set_option maxRecDepth 100000
set_option maxHeartbeats 16000000
open Go Go.RowKit
def tblN (j : Nat) : Nat := (tbl0.getD j (.u32, 0)).2.toNat
def nibN (s : Nat) : Nat := s / 16 ^^^ tblN (s % 16)
def byteN (s c : Nat) : Nat := nibN (nibN (s ^^^ c))
def crcN (s : Nat) (bs : List Int) : Nat := bs.foldl (fun s c => byteN s c.toNat) s
def bitN (s : Nat) : Nat := if s % 2 = 1 then s / 2 ^^^ 3988292384 else s / 2
def bitsN : Nat → Nat → Nat
  | 0, s => s
  | k + 1, s => bitN (bitsN k s)
/-- a check that is gone on with -/
def qY (sum : Nat) (bs : List Int) : Nat := 4294967295 - crcN (4294967295 - sum) bs
theorem xor_half (a b : Nat) : (a ^^^ b) / 2 = a / 2 ^^^ b / 2 := by
  apply Nat.eq_of_testBit_eq
  intro i
  rw [Nat.testBit_xor, Nat.testBit_div_two, Nat.testBit_div_two, Nat.testBit_div_two, Nat.testBit_xor]
theorem xor_par (a b : Nat) : (a ^^^ b) % 2 = (a % 2 + b % 2) % 2 := by
  have h := Nat.testBit_xor a b 0
  simp only [Nat.testBit_zero] at h
  have ha : a % 2 = 0 ∨ a % 2 = 1 := by omega
  have hb : b % 2 = 0 ∨ b % 2 = 1 := by omega
  have hc : (a ^^^ b) % 2 = 0 ∨ (a ^^^ b) % 2 = 1 := by omega
  rcases ha with ha | ha <;> rcases hb with hb | hb <;> rcases hc with hc | hc <;> rw [ha, hb, hc] at h <;> rw [ha, hb, hc] <;> first | rfl | exact absurd h (by decide)
theorem bit_xor (a b : Nat) : bitN (a ^^^ b) = bitN a ^^^ bitN b := by
  unfold bitN
  rw [xor_half, xor_par]
  have ha : a % 2 = 0 ∨ a % 2 = 1 := by omega
  have hb : b % 2 = 0 ∨ b % 2 = 1 := by omega
  rcases ha with ha | ha <;> rcases hb with hb | hb <;> simp only [ha, hb]
  · simp
  · simp [Nat.xor_assoc]
  · rw [if_pos (by decide), if_pos trivial, if_neg (by decide)]
    rw [Nat.xor_assoc, Nat.xor_assoc, Nat.xor_comm (b / 2)]
  · rw [if_neg (by decide), if_pos trivial, if_pos trivial]
    rw [Nat.xor_assoc, ← Nat.xor_assoc 3988292384, Nat.xor_comm 3988292384 (b / 2), Nat.xor_assoc, Nat.xor_self, Nat.xor_zero]
theorem bit_even (h : Nat) : bitN (2 * h) = h := by
  unfold bitN
  rw [if_neg (by omega)]
  omega
theorem split16 (s : Nat) : s = (16 * (s / 16)) ^^^ (s % 16) := by
  apply Nat.eq_of_testBit_eq
  intro i
  have e1 : 16 * (s / 16) = 2 ^ 4 * (s / 2 ^ 4) := rfl
  have e2 : s % 16 = s % 2 ^ 4 := rfl
  rw [Nat.testBit_xor, e1, e2, Nat.testBit_two_pow_mul, Nat.testBit_mod_two_pow, Nat.testBit_div_two_pow]
  by_cases hi : i < 4
  · simp [hi, Nat.not_le.2 hi]
  · have h4 : 4 ≤ i := by omega
    have e3 : i - 4 + 4 = i := by omega
    simp [hi, h4, e3]
theorem nib_low : ∀ l, l < 16 → bitN (bitN (bitN (bitN l))) = tblN l := by decide +kernel
theorem nib_bits (s : Nat) : nibN s = bitN (bitN (bitN (bitN s))) := by
  have h16 : bitN (bitN (bitN (bitN (16 * (s / 16))))) = s / 16 := by
    have e : 16 * (s / 16) = 2 * (2 * (2 * (2 * (s / 16)))) := by omega
    rw [e, bit_even, bit_even, bit_even, bit_even]
  conv => rhs; rw [split16 s]
  rw [bit_xor, bit_xor, bit_xor, bit_xor, h16, nib_low _ (by omega)]
  rfl
theorem byte_bits (s c : Nat) : byteN s c = bitsN 8 (s ^^^ c) := by
  unfold byteN
  rw [nib_bits, nib_bits]
  rfl
theorem tblN_lt : ∀ j, j < 16 → tblN j < 4294967296 := by decide +kernel
theorem nib_lt {s : Nat} (h : s < 4294967296) : nibN s < 4294967296 := by
  have h1 := tblN_lt (s % 16) (by omega)
  exact Nat.xor_lt_two_pow (n := 32) (by omega) h1
theorem byte_lt {s c : Nat} (h : s < 4294967296) (hc : c < 256) : byteN s c < 4294967296 := nib_lt (nib_lt (Nat.xor_lt_two_pow (n := 32) h (by omega)))
theorem bit_lt {s : Nat} (h : s < 4294967296) : bitN s < 4294967296 := by
  unfold bitN
  split
  · exact Nat.xor_lt_two_pow (n := 32) (by omega) (by decide)
  · omega
theorem bits_lt (k : Nat) {s : Nat} (h : s < 4294967296) : bitsN k s < 4294967296 := by
  induction k with
  | zero => exact h
  | succ k ih => exact bit_lt ih
theorem crc_lt (bs : List Int) (hb : ∀ x ∈ bs, 0 ≤ x ∧ x < 256) : ∀ s, s < 4294967296 → crcN s bs < 4294967296 := by
  induction bs with
  | nil => intro s h; exact h
  | cons c r ih =>
    intro s h
    have := hb c (by simp)
    exact ih (fun x hx => hb x (by simp [hx])) _ (byte_lt h (by omega))
theorem crc_take (s : Nat) (b : List Int) (i : Nat) (h : i < b.length) : crcN s (b.take (i + 1)) = byteN (crcN s (b.take i)) (b.getD i 0).toNat := by
  have e : b.take (i + 1) = b.take i ++ [b.getD i 0] := by
    rw [List.take_add_one, List.getElem?_eq_getElem h]
    simp [List.getD, h]
  unfold crcN
  rw [e, List.foldl_append]
  rfl
theorem compl32 (n : Nat) (h : n < 4294967296) : 4294967295 ^^^ n = 4294967295 - n := by
  have h1 : (BitVec.allOnes 32 ^^^ BitVec.ofNat 32 n).toNat = (~~~ (BitVec.ofNat 32 n)).toNat := by rw [BitVec.allOnes_xor]
  rw [BitVec.toNat_xor, BitVec.toNat_not, BitVec.toNat_allOnes, BitVec.toNat_ofNat, Nat.mod_eq_of_lt (by omega)] at h1
  simpa using h1
theorem xor_max (n : Nat) (h : n < 4294967296) : bits .xor .u32 (IntKind.max .u32) (n : Int) = ((4294967295 - n : Nat) : Int) := by
  have : (IntKind.max .u32) = ((4294967295 : Nat) : Int) := by decide
  rw [this, u32_xor_nat 4294967295 n (by decide) h, compl32 n h]
end Go.Proofs.YtohlllohmoojiaaGreatDoor
/- The check of bytes, the program's and the document's: contracts. -/
namespace Go.Proofs.YtohlllohmoojiaaGreatDoor
set_option maxRecDepth 100000
set_option maxHeartbeats 16000000
open Go Go.RowKit
set_option linter.unusedSimpArgs false
attribute [local irreducible] zY zZ Step zK Sub zS Fn
theorem wrapU32 (x : Int) (h0 : 0 ≤ x) (h1 : x < 4294967296) : IntKind.u32.wrap x = x := wrap_u32 _ (by omega)
theorem getB {b : List Int} (hb : ∀ x ∈ b, 0 ≤ x ∧ x < 256) (i : Nat) : 0 ≤ b.getD i 0 ∧ b.getD i 0 < 256 := by
  by_cases h : i < b.length
  · simpa [List.getD, h] using hb b[i] (List.getElem_mem h)
  · simp [List.getD, h]
/-- frame of More's loop -/
def moreS (b : List Int) (s : Nat) (i : Nat) : AS :=
  { t := [(4, .p (.val (.int .u32 0))), (5, .p (.val (.int .u32 (s : Int)))), (10, .p (.sl (byts b))), (11, .p (.val (.int .i64 b.length))), (12, .p (.val (.int .i64 i)))], s := [] }
theorem more_fn (sum : Nat) (b : List Int) (hs : sum < 4294967296) (h64 : b.length ≤ 9223372036854775807) (hb : ∀ x ∈ b, 0 ≤ x ∧ x < 256) :
    Fn Tryz.prog 233 [.val (.int .u32 sum), .sl (byts b)] (.p (.val (.int .u32 (qY sum b)))) := by
  have g0 := xor_max sum hs
  refine wW Tryz.func233 rfl Tryz.ntmps233 (Nat.le_of_ble_eq_true rfl) ?_
  repeat' ((refine zZ.is ?_; first | refine zZ.seq ?_ | (refine zZ.isR (id := 0) ?_; refine zZ.zR [0, 1] [] (by repeat' first | exact zX.nil | apply zX.p rfl) (by repeat' exact zW.nil) ?_; (refine zY.v rfl rfl (zV rfl rfl rfl (by decide)) ?_); refine zY.nil ?_) | (refine zZ.isR (id := 1) ?_; refine zZ.zR [0, 1, 4] [] (by repeat' first | exact zX.nil | apply zX.p rfl) (by repeat' exact zW.nil) ?_; (refine zY.v rfl rfl (zQ rfl rfl rfl (by decide)) ?_); (refine zY.v rfl rfl (by exact a_cmpl rfl rfl rfl (by exact g0) rfl (by decide)) ?_); (refine zY.v rfl rfl (zV rfl rfl rfl (by decide)) ?_); refine zY.nil ?_) | (refine zZ.isR (id := 2) ?_; refine zZ.zR [1, 4, 5] [] (by repeat' first | exact zX.nil | apply zX.p rfl) (by repeat' exact zW.nil) ?_; (refine zY.v rfl rfl (zQ rfl rfl rfl (by decide)) ?_); (refine zY.v rfl rfl (w_lenP rfl rfl rfl (by decide)) ?_); (refine zY.v rfl rfl (zQ rfl rfl rfl (by decide)) ?_); refine zY.nil ?_) | refine zZ.block ?_))
  refine zZ.loop (fun i => moreS b (crcN (4294967295 - sum) (b.take i)) i) (fun i => i ≤ b.length) (fun i => b.length - i) 0 ?h0 (Nat.zero_le _) ?rd
  case h0 =>
    exact yR K_16 []
  case rd =>
    intro i hi
    have hlt := crc_lt (b.take i) (fun x hx => hb x (List.mem_of_mem_take hx)) (4294967295 - sum) (by omega)
    generalize hst : crcN (4294967295 - sum) (b.take i) = st at *
    by_cases hc : i < b.length
    · have hdec : decide ((i : Int) < (b.length : Int)) = true := by simpa using hc
      have hB := getB hb i
      have hst2 := crc_take (4294967295 - sum) b i hc
      rw [hst] at hst2
      generalize hcc : b.getD i 0 = c at *
      have hcN : c = ((c.toNat : Nat) : Int) := by omega
      have s1 : st ^^^ c.toNat < 4294967296 := Nat.xor_lt_two_pow (n := 32) hlt (by omega)
      have g1 : IntKind.u32.wrap (b.getD (i : Int).toNat 0) = ((c.toNat : Nat) : Int) := by
        rw [Int.toNat_natCast, hcc, wrapU32 c (by omega) (by omega)]
        exact hcN
      have g2 : bits .xor .u32 (st : Int) ((c.toNat : Nat) : Int) = ((st ^^^ c.toNat : Nat) : Int) := u32_xor_nat st c.toNat hlt (by omega)
      have sh : ∀ s : Nat, (s : Int) / 2 ^ (4 : Int).toNat = ((s / 16 : Nat) : Int) := fun s => by show (s : Int) / 16 = _; omega
      have an : ∀ s : Nat, s < 4294967296 → bits .and .u32 (s : Int) 15 = ((s % 16 : Nat) : Int) := fun s h => by
        rw [show (15 : Int) = ((15 : Nat) : Int) from rfl, u32_and_nat s 15 h (by decide)]
        have : s &&& 15 = s % 16 := Nat.and_two_pow_sub_one_eq_mod s 4
        rw [this]
      have tb : ∀ s : Nat, tbl0[((s % 16 : Nat) : Int).toNat]? = some (.u32, ((tblN (s % 16) : Nat) : Int)) := fun s => by
        rw [Int.toNat_natCast]
        have : ∀ j, j < 16 → tbl0[j]? = some (.u32, ((tblN j : Nat) : Int)) := by decide +kernel
        exact this _ (by omega)
      have xr : ∀ s : Nat, s < 4294967296 → bits .xor .u32 ((s / 16 : Nat) : Int) ((tblN (s % 16) : Nat) : Int) = ((nibN s : Nat) : Int) := fun s h => u32_xor_nat _ _ (by omega) (tblN_lt _ (by omega))
      have g3 := sh (st ^^^ c.toNat)
      have g4 := an _ s1
      have g5 := tb (st ^^^ c.toNat)
      have g6 := xr _ s1
      have s2 := nib_lt s1
      have g7 := sh (nibN (st ^^^ c.toNat))
      have g8 := an _ s2
      have g9 := tb (nibN (st ^^^ c.toNat))
      have g10 := xr _ s2
      clear sh an tb xr
      repeat' (first | (refine zZ.is ?_; first | refine zZ.seq ?_ | (refine zZ.isR (id := 3) ?_; refine zZ.zR [4, 5, 7, 10, 11, 12, 13] [] (by repeat' first | exact zX.nil | apply zX.p rfl | apply zX.skip) (by repeat' exact zW.nil) ?_; (refine zY.v rfl rfl (xI rfl rfl rfl (by rfl) rfl (by decide)) ?_); refine zY.nil ?_) | (refine zZ.isR (id := 4) ?_; refine zZ.zR [4, 5, 7, 10, 11, 12, 13] [] (by repeat' first | exact zX.nil | apply zX.p rfl | apply zX.skip) (by repeat' exact zW.nil) ?_; (refine zY.v rfl rfl (by exact w_indexB rfl rfl rfl (by omega) rfl (by decide)) ?_); (refine zY.v rfl rfl (w_load1 rfl rfl rfl rfl (by decide)) ?_); (refine zY.v rfl rfl (zV rfl rfl rfl (by decide)) ?_); refine zY.nil ?_) | (refine zZ.isR (id := 5) ?_; refine zZ.zR [4, 5, 7, 10, 11, 12, 13] [] (by repeat' first | exact zX.nil | apply zX.p rfl) (by repeat' exact zW.nil) ?_; (refine zY.v rfl rfl (zQ rfl rfl rfl (by decide)) ?_); (refine zY.v rfl rfl (zQ rfl rfl rfl (by decide)) ?_); (refine zY.v rfl rfl (by exact wG rfl rfl (by exact g1) rfl (by decide)) ?_); (refine zY.v rfl rfl (by exact a_xor rfl rfl rfl (by exact g2) rfl (by decide)) ?_); (refine zY.v rfl rfl (zV rfl rfl rfl (by decide)) ?_); refine zY.nil ?_) | (refine zZ.isR (id := 6) ?_; refine zZ.zR [4, 5, 7, 10, 11, 12, 13] [] (by repeat' first | exact zX.nil | apply zX.p rfl) (by repeat' exact zW.nil) ?_; (refine zY.v rfl rfl (zQ rfl rfl rfl (by decide)) ?_); (refine zY.v rfl rfl (by exact a_shr rfl rfl rfl (by decide) (by decide) (by exact g3) rfl (by decide)) ?_); (refine zY.v rfl rfl (zQ rfl rfl rfl (by decide)) ?_); (refine zY.v rfl rfl (by exact a_and rfl rfl rfl (by exact g4) rfl (by decide)) ?_); (refine zY.v rfl rfl (by exact w_indexG rfl rfl rfl rfl rfl (by omega) (by exact g5) rfl (by decide)) ?_); (refine zY.v rfl rfl (w_load1 rfl rfl rfl rfl (by decide)) ?_); (refine zY.v rfl rfl (by exact a_xor rfl rfl rfl (by exact g6) rfl (by decide)) ?_); (refine zY.v rfl rfl (zV rfl rfl rfl (by decide)) ?_); refine zY.nil ?_) | (refine zZ.isR (id := 7) ?_; refine zZ.zR [4, 5, 7, 10, 11, 12, 13] [] (by repeat' first | exact zX.nil | apply zX.p rfl) (by repeat' exact zW.nil) ?_; (refine zY.v rfl rfl (zQ rfl rfl rfl (by decide)) ?_); (refine zY.v rfl rfl (by exact a_shr rfl rfl rfl (by decide) (by decide) (by exact g7) rfl (by decide)) ?_); (refine zY.v rfl rfl (zQ rfl rfl rfl (by decide)) ?_); (refine zY.v rfl rfl (by exact a_and rfl rfl rfl (by exact g8) rfl (by decide)) ?_); (refine zY.v rfl rfl (by exact w_indexG rfl rfl rfl rfl rfl (by omega) (by exact g9) rfl (by decide)) ?_); (refine zY.v rfl rfl (w_load1 rfl rfl rfl rfl (by decide)) ?_); (refine zY.v rfl rfl (by exact a_xor rfl rfl rfl (by exact g10) rfl (by decide)) ?_); (refine zY.v rfl rfl (zV rfl rfl rfl (by decide)) ?_); refine zY.nil ?_) | (refine zZ.isR (id := 8) ?_; refine zZ.zR [4, 5, 7, 10, 11, 12, 13] [] (by repeat' first | exact zX.nil | apply zX.p rfl) (by repeat' exact zW.nil) ?_; (refine zY.v rfl rfl (by exact qQ rfl rfl rfl (by exact wrap_i64 _ (by omega)) rfl (by decide)) ?_); (refine zY.v rfl rfl (zQ rfl rfl rfl (by decide)) ?_); refine zY.nil ?_) | refine zZ.yM rfl (by assumption) ?_ | refine zZ.skip ?_ | refine zZ.block ?_) | refine zG.n ?_)
      refine ⟨i + 1, ?_, by omega, by omega⟩
      show Sub _ (moreS b (crcN (4294967295 - sum) (b.take (i + 1))) (i + 1))
      rw [hst2]
      exact yR K_16 []
    · have hdec : decide ((i : Int) < (b.length : Int)) = false := by simpa using hc
      have hl : b.take i = b := List.take_of_length_le (by omega)
      have g1 : bits .xor .u32 (IntKind.max .u32) (st : Int) = ((qY sum b : Nat) : Int) := by
        rw [xor_max st hlt]
        unfold qY
        rw [← hst, hl]
      repeat' ((refine zZ.is ?_; first | refine zZ.seq ?_ | (refine zZ.isR (id := 3) ?_; refine zZ.zR [4, 5, 7, 10, 11, 12, 13] [] (by repeat' first | exact zX.nil | apply zX.p rfl | apply zX.skip) (by repeat' exact zW.nil) ?_; (refine zY.v rfl rfl (xI rfl rfl rfl (by rfl) rfl (by decide)) ?_); refine zY.nil ?_) | (refine zZ.isR (id := 9) ?_; refine zZ.zR [4, 5] [] (by repeat' first | exact zX.nil | apply zX.p rfl) (by repeat' exact zW.nil) ?_; (refine zY.v rfl rfl (zQ rfl rfl rfl (by decide)) ?_); (refine zY.v rfl rfl (by exact a_cmpl rfl rfl rfl (by exact g1) rfl (by decide)) ?_); (refine zY.v rfl rfl (zV rfl rfl rfl (by decide)) ?_); refine zY.nil ?_) | refine zZ.yI rfl (by assumption) ?_ | refine zZ.exit ?_ | refine zZ.ret ?_))
      all_goals exact ⟨.inl rfl, gives1 rfl rfl rfl⟩
theorem sum_fn (b : List Int) (h64 : b.length ≤ 9223372036854775807) (hb : ∀ x ∈ b, 0 ≤ x ∧ x < 256) : Fn Tryz.prog 226 [.sl (byts b)] (.p (.val (.int .u32 (qY 0 b)))) := by
  have c1 := more_fn 0 b (by decide) h64 hb
  refine wW Tryz.func226 rfl Tryz.ntmps226 (Nat.le_of_ble_eq_true rfl) ?_
  repeat' ((refine zZ.is ?_; first | refine zZ.seq ?_ | (refine zZ.isR (id := 0) ?_; refine zZ.zR [0] [] (by repeat' first | exact zX.nil | apply zX.p rfl) (by repeat' exact zW.nil) ?_; (refine zY.v rfl rfl (zV rfl rfl rfl (by decide)) ?_); refine zY.nil ?_) | (refine zZ.isR (id := 1) ?_; refine zZ.zR [0, 2] [] (by repeat' first | exact zX.nil | apply zX.p rfl) (by repeat' exact zW.nil) ?_; (refine zY.v rfl rfl (zQ rfl rfl rfl (by decide)) ?_); (refine zY.v rfl rfl (by exact zO (c1) rfl rfl rfl (by decide)) ?_); (refine zY.v rfl rfl (zV rfl rfl rfl (by decide)) ?_); refine zY.nil ?_) | refine zZ.ret ?_))
  all_goals exact ⟨.inl rfl, gives1 rfl rfl rfl⟩
/-- frames of the reference's loops -/
def moreR (b : List Int) (s : Nat) (i : Nat) : AS :=
  { t := [(1, .p (.sl (byts b))), (4, .p (.val (.int .u32 0))), (5, .p (.val (.int .u32 (s : Int)))), (6, .p (.val (.int .i64 i)))], s := [] }
def moreRI (b : List Int) (s : Nat) (i k : Nat) : AS :=
  { t := [(1, .p (.sl (byts b))), (4, .p (.val (.int .u32 0))), (5, .p (.val (.int .u32 (bitsN k s : Int)))), (6, .p (.val (.int .i64 i))), (7, .p (.val (.int .i64 k)))], s := [] }
theorem moreRef_fn (sum : Nat) (b : List Int) (hs : sum < 4294967296) (h64 : b.length ≤ 9223372036854775807) (hb : ∀ x ∈ b, 0 ≤ x ∧ x < 256) :
    Fn Tryz.prog 229 [.val (.int .u32 sum), .sl (byts b)] (.p (.val (.int .u32 (qY sum b)))) := by
  have g0 : IntKind.u32.wrap (4294967295 - (sum : Int)) = ((4294967295 - sum : Nat) : Int) := by rw [wrapU32 _ (by omega) (by omega)]; omega
  refine wW Tryz.func229 rfl Tryz.ntmps229 (Nat.le_of_ble_eq_true rfl) ?_
  repeat' ((refine zZ.is ?_; first | refine zZ.seq ?_ | (refine zZ.isR (id := 0) ?_; refine zZ.zR [0, 1] [] (by repeat' first | exact zX.nil | apply zX.p rfl) (by repeat' exact zW.nil) ?_; (refine zY.v rfl rfl (zV rfl rfl rfl (by decide)) ?_); refine zY.nil ?_) | (refine zZ.isR (id := 1) ?_; refine zZ.zR [0, 1, 4] [] (by repeat' first | exact zX.nil | apply zX.p rfl) (by repeat' exact zW.nil) ?_; (refine zY.v rfl rfl (zQ rfl rfl rfl (by decide)) ?_); (refine zY.v rfl rfl (by exact a_sub rfl rfl rfl (by exact g0) rfl (by decide)) ?_); (refine zY.v rfl rfl (zV rfl rfl rfl (by decide)) ?_); refine zY.nil ?_) | (refine zZ.isR (id := 2) ?_; refine zZ.zR [1, 4, 5] [] (by repeat' first | exact zX.nil | apply zX.p rfl) (by repeat' exact zW.nil) ?_; (refine zY.v rfl rfl (zV rfl rfl rfl (by decide)) ?_); refine zY.nil ?_) | refine zZ.block ?_))
  refine zZ.loop (fun i => moreR b (crcN (4294967295 - sum) (b.take i)) i) (fun i => i ≤ b.length) (fun i => b.length - i) 0 ?h0 (Nat.zero_le _) ?rd
  case h0 =>
    exact yR K_17 []
  case rd =>
    intro i hi
    have hlt := crc_lt (b.take i) (fun x hx => hb x (List.mem_of_mem_take hx)) (4294967295 - sum) (by omega)
    generalize hst : crcN (4294967295 - sum) (b.take i) = st at *
    by_cases hc : i < b.length
    · have hdec : decide ((i : Int) < (b.length : Int)) = true := by simpa using hc
      have hB := getB hb i
      have hst2 := crc_take (4294967295 - sum) b i hc
      rw [hst, byte_bits] at hst2
      generalize hcc : b.getD i 0 = c at *
      have hcN : c = ((c.toNat : Nat) : Int) := by omega
      have s1 : st ^^^ c.toNat < 4294967296 := Nat.xor_lt_two_pow (n := 32) hlt (by omega)
      have g1 : IntKind.u32.wrap (b.getD (i : Int).toNat 0) = ((c.toNat : Nat) : Int) := by
        rw [Int.toNat_natCast, hcc, wrapU32 c (by omega) (by omega)]
        exact hcN
      have g2 : bits .xor .u32 (st : Int) ((c.toNat : Nat) : Int) = ((st ^^^ c.toNat : Nat) : Int) := u32_xor_nat st c.toNat hlt (by omega)
      repeat' ((refine zZ.is ?_; first | refine zZ.seq ?_ | (refine zZ.isR (id := 3) ?_; refine zZ.zR [1, 4, 5, 6, 7, 8, 14, 25, 33] [] (by repeat' first | exact zX.nil | apply zX.p rfl | apply zX.skip) (by repeat' exact zW.nil) ?_; (refine zY.v rfl rfl (zQ rfl rfl rfl (by decide)) ?_); (refine zY.v rfl rfl (zQ rfl rfl rfl (by decide)) ?_); (refine zY.v rfl rfl (w_lenP rfl rfl rfl (by decide)) ?_); (refine zY.v rfl rfl (xI rfl rfl rfl (by rfl) rfl (by decide)) ?_); refine zY.nil ?_) | (refine zZ.isR (id := 5) ?_; refine zZ.zR [1, 4, 5, 6, 7, 8, 14, 25, 33] [] (by repeat' first | exact zX.nil | apply zX.p rfl | apply zX.skip) (by repeat' exact zW.nil) ?_; (refine zY.v rfl rfl (zQ rfl rfl rfl (by decide)) ?_); (refine zY.v rfl rfl (zQ rfl rfl rfl (by decide)) ?_); (refine zY.v rfl rfl (zQ rfl rfl rfl (by decide)) ?_); (refine zY.v rfl rfl (by exact w_indexB rfl rfl rfl (by omega) rfl (by decide)) ?_); (refine zY.v rfl rfl (w_load1 rfl rfl rfl rfl (by decide)) ?_); (refine zY.v rfl rfl (by exact wG rfl rfl (by exact g1) rfl (by decide)) ?_); (refine zY.v rfl rfl (by exact a_xor rfl rfl rfl (by exact g2) rfl (by decide)) ?_); (refine zY.v rfl rfl (zV rfl rfl rfl (by decide)) ?_); refine zY.nil ?_) | (refine zZ.isR (id := 6) ?_; refine zZ.zR [1, 4, 5, 6, 7, 8, 14, 25, 33] [] (by repeat' first | exact zX.nil | apply zX.p rfl | apply zX.skip) (by repeat' exact zW.nil) ?_; (refine zY.v rfl rfl (zV rfl rfl rfl (by decide)) ?_); refine zY.nil ?_) | refine zZ.yM rfl (by assumption) ?_ | refine zZ.skip ?_ | refine zZ.block ?_))
      refine zZ.loop (fun k => moreRI b (st ^^^ c.toNat) i k) (fun k => k ≤ 8) (fun k => 8 - k) 0 ?h0 (Nat.zero_le _) ?rd
      case h0 =>
        exact yR K_14 []
      case rd =>
        intro k hk
        have hlk := bits_lt k s1
        have hsucc : bitsN (k + 1) (st ^^^ c.toNat) = bitN (bitsN k (st ^^^ c.toNat)) := rfl
        by_cases hk8 : k < 8
        · have hd8 : decide ((k : Int) < 8) = true := by simp; omega
          have hk8' : (k : Int) < 8 := by omega
          generalize hsk : bitsN k (st ^^^ c.toNat) = sk at *
          have q1 : ((sk : Nat) : Int).tmod 2 = ((sk % 2 : Nat) : Int) := by rw [Int.tmod_eq_emod_of_nonneg (by omega)]; omega
          have q2 : IntKind.u32.wrap (((sk : Nat) : Int).tdiv 2) = ((sk / 2 : Nat) : Int) := by rw [Int.tdiv_eq_ediv_of_nonneg (by omega), wrapU32 _ (by omega) (by omega)]; omega
          unfold moreRI
          rw [hsk]
          by_cases hp : sk % 2 = 1
          · have q3 : decide (((sk % 2 : Nat) : Int) = 1) = true := decide_eq_true (by omega)
            have q4 : bits .xor .u32 ((sk / 2 : Nat) : Int) 3988292384 = ((bitN sk : Nat) : Int) := by
              have := u32_xor_nat (sk / 2) 3988292384 (by omega) (by decide)
              unfold bitN
              rw [if_pos hp]
              exact this
            repeat' (first | (refine zZ.is ?_; first | refine zZ.seq ?_ | (refine zZ.isR (id := 7) ?_; refine zZ.zR [1, 4, 5, 6, 7, 8, 14, 25, 33] [] (by repeat' first | exact zX.nil | apply zX.p rfl | apply zX.skip) (by repeat' exact zW.nil) ?_; (refine zY.v rfl rfl (zQ rfl rfl rfl (by decide)) ?_); (refine zY.v rfl rfl (xI rfl rfl rfl (by rfl) rfl (by decide)) ?_); refine zY.nil ?_) | (refine zZ.isR (id := 9) ?_; refine zZ.zR [1, 4, 5, 6, 7, 8, 14, 25, 33] [] (by repeat' first | exact zX.nil | apply zX.p rfl | apply zX.skip) (by repeat' exact zW.nil) ?_; (refine zY.v rfl rfl (zQ rfl rfl rfl (by decide)) ?_); (refine zY.v rfl rfl (by exact a_rem rfl rfl rfl (by decide) (by exact q1) rfl (by decide)) ?_); (refine zY.v rfl rfl (zV rfl rfl rfl (by decide)) ?_); refine zY.nil ?_) | (refine zZ.isR (id := 10) ?_; refine zZ.zR [1, 4, 5, 6, 7, 8, 14, 25, 33] [] (by repeat' first | exact zX.nil | apply zX.p rfl | apply zX.skip) (by repeat' exact zW.nil) ?_; (refine zY.v rfl rfl (zQ rfl rfl rfl (by decide)) ?_); (refine zY.v rfl rfl (by exact a_quo rfl rfl rfl (by decide) (by exact q2) rfl (by decide)) ?_); (refine zY.v rfl rfl (zV rfl rfl rfl (by decide)) ?_); refine zY.nil ?_) | (refine zZ.isR (id := 11) ?_; refine zZ.zR [1, 4, 5, 6, 7, 8, 14, 25, 33] [] (by repeat' first | exact zX.nil | apply zX.p rfl | apply zX.skip) (by repeat' exact zW.nil) ?_; (refine zY.v rfl rfl (zQ rfl rfl rfl (by decide)) ?_); (refine zY.v rfl rfl (by exact wM rfl rfl rfl (by exact q3) rfl (by decide)) ?_); refine zY.nil ?_) | (refine zZ.isR (id := 12) ?_; refine zZ.zR [1, 4, 5, 6, 7, 8, 14, 25, 33] [] (by repeat' first | exact zX.nil | apply zX.p rfl | apply zX.skip) (by repeat' exact zW.nil) ?_; (refine zY.v rfl rfl (zQ rfl rfl rfl (by decide)) ?_); (refine zY.v rfl rfl (by exact a_xor rfl rfl rfl (by exact q4) rfl (by decide)) ?_); (refine zY.v rfl rfl (zV rfl rfl rfl (by decide)) ?_); refine zY.nil ?_) | (refine zZ.isR (id := 8) ?_; refine zZ.zR [1, 4, 5, 6, 7, 8, 14, 25, 33] [] (by repeat' first | exact zX.nil | apply zX.p rfl | apply zX.skip) (by repeat' exact zW.nil) ?_; (refine zY.v rfl rfl (zQ rfl rfl rfl (by decide)) ?_); (refine zY.v rfl rfl (by exact qQ rfl rfl rfl (by exact wrap_i64 _ (by omega)) rfl (by decide)) ?_); (refine zY.v rfl rfl (zV rfl rfl rfl (by decide)) ?_); refine zY.nil ?_) | refine zZ.yM rfl (by first | assumption | with_reducible rfl) ?_ | refine zZ.skip ?_ | refine zZ.block ?_) | refine zG.n ?_)
            refine ⟨k + 1, ?_, by omega, by omega⟩
            rw [hsucc]
            exact yR K_14 []
          · have q3 : decide (((sk % 2 : Nat) : Int) = 1) = false := decide_eq_false (by omega)
            have q4 : bitN sk = sk / 2 := if_neg hp
            repeat' (first | (refine zZ.is ?_; first | refine zZ.seq ?_ | (refine zZ.isR (id := 7) ?_; refine zZ.zR [1, 4, 5, 6, 7, 8, 14, 25, 33] [] (by repeat' first | exact zX.nil | apply zX.p rfl | apply zX.skip) (by repeat' exact zW.nil) ?_; (refine zY.v rfl rfl (zQ rfl rfl rfl (by decide)) ?_); (refine zY.v rfl rfl (xI rfl rfl rfl (by rfl) rfl (by decide)) ?_); refine zY.nil ?_) | (refine zZ.isR (id := 9) ?_; refine zZ.zR [1, 4, 5, 6, 7, 8, 14, 25, 33] [] (by repeat' first | exact zX.nil | apply zX.p rfl | apply zX.skip) (by repeat' exact zW.nil) ?_; (refine zY.v rfl rfl (zQ rfl rfl rfl (by decide)) ?_); (refine zY.v rfl rfl (by exact a_rem rfl rfl rfl (by decide) (by exact q1) rfl (by decide)) ?_); (refine zY.v rfl rfl (zV rfl rfl rfl (by decide)) ?_); refine zY.nil ?_) | (refine zZ.isR (id := 10) ?_; refine zZ.zR [1, 4, 5, 6, 7, 8, 14, 25, 33] [] (by repeat' first | exact zX.nil | apply zX.p rfl | apply zX.skip) (by repeat' exact zW.nil) ?_; (refine zY.v rfl rfl (zQ rfl rfl rfl (by decide)) ?_); (refine zY.v rfl rfl (by exact a_quo rfl rfl rfl (by decide) (by exact q2) rfl (by decide)) ?_); (refine zY.v rfl rfl (zV rfl rfl rfl (by decide)) ?_); refine zY.nil ?_) | (refine zZ.isR (id := 11) ?_; refine zZ.zR [1, 4, 5, 6, 7, 8, 14, 25, 33] [] (by repeat' first | exact zX.nil | apply zX.p rfl | apply zX.skip) (by repeat' exact zW.nil) ?_; (refine zY.v rfl rfl (zQ rfl rfl rfl (by decide)) ?_); (refine zY.v rfl rfl (by exact wM rfl rfl rfl (by exact q3) rfl (by decide)) ?_); refine zY.nil ?_) | (refine zZ.isR (id := 8) ?_; refine zZ.zR [1, 4, 5, 6, 7, 8, 14, 25, 33] [] (by repeat' first | exact zX.nil | apply zX.p rfl | apply zX.skip) (by repeat' exact zW.nil) ?_; (refine zY.v rfl rfl (zQ rfl rfl rfl (by decide)) ?_); (refine zY.v rfl rfl (by exact qQ rfl rfl rfl (by exact wrap_i64 _ (by omega)) rfl (by decide)) ?_); (refine zY.v rfl rfl (zV rfl rfl rfl (by decide)) ?_); refine zY.nil ?_) | refine zZ.yM rfl (by assumption) ?_ | refine zZ.yI rfl (by first | assumption | with_reducible rfl) ?_ | refine zZ.skip ?_ | refine zZ.block ?_) | refine zG.n ?_)
            refine ⟨k + 1, ?_, by omega, by omega⟩
            rw [hsucc, q4]
            exact yR K_14 []
        · have hd8 : decide ((k : Int) < 8) = false := by simp; omega
          obtain rfl : k = 8 := by omega
          repeat' (first | (refine zZ.is ?_; first | refine zZ.seq ?_ | (refine zZ.isR (id := 7) ?_; refine zZ.zR [1, 4, 5, 6, 7, 8, 14, 25, 33] [] (by repeat' first | exact zX.nil | apply zX.p rfl | apply zX.skip) (by repeat' exact zW.nil) ?_; (refine zY.v rfl rfl (zQ rfl rfl rfl (by decide)) ?_); (refine zY.v rfl rfl (by exact xI rfl rfl rfl (by exact bF (by decide)) rfl (by decide)) ?_); refine zY.nil ?_) | (refine zZ.isR (id := 4) ?_; refine zZ.zR [1, 4, 5, 6, 7, 8, 14, 25, 33] [] (by repeat' first | exact zX.nil | apply zX.p rfl | apply zX.skip) (by repeat' exact zW.nil) ?_; (refine zY.v rfl rfl (zQ rfl rfl rfl (by decide)) ?_); (refine zY.v rfl rfl (by exact qQ rfl rfl rfl (by exact wrap_i64 _ (by omega)) rfl (by decide)) ?_); (refine zY.v rfl rfl (zV rfl rfl rfl (by decide)) ?_); refine zY.nil ?_) | refine zZ.yI rfl (by assumption) ?_ | refine zZ.exit ?_) | refine zG.n ?_)
          refine ⟨i + 1, ?_, by omega, by omega⟩
          show Sub _ (moreR b (crcN (4294967295 - sum) (b.take (i + 1))) (i + 1))
          rw [hst2]
          exact yR K_17 []
    · have hdec : decide ((i : Int) < (b.length : Int)) = false := by simpa using hc
      have hl : b.take i = b := List.take_of_length_le (by omega)
      have g1 : IntKind.u32.wrap (4294967295 - (st : Int)) = ((qY sum b : Nat) : Int) := by
        rw [wrapU32 _ (by omega) (by omega)]
        unfold qY
        rw [← hl, hst]
        omega
      repeat' ((refine zZ.is ?_; first | refine zZ.seq ?_ | (refine zZ.isR (id := 3) ?_; refine zZ.zR [1, 4, 5, 6, 7, 8, 14, 25, 33] [] (by repeat' first | exact zX.nil | apply zX.p rfl | apply zX.skip) (by repeat' exact zW.nil) ?_; (refine zY.v rfl rfl (zQ rfl rfl rfl (by decide)) ?_); (refine zY.v rfl rfl (zQ rfl rfl rfl (by decide)) ?_); (refine zY.v rfl rfl (w_lenP rfl rfl rfl (by decide)) ?_); (refine zY.v rfl rfl (xI rfl rfl rfl (by rfl) rfl (by decide)) ?_); refine zY.nil ?_) | (refine zZ.isR (id := 13) ?_; refine zZ.zR [4, 5] [] (by repeat' first | exact zX.nil | apply zX.p rfl) (by repeat' exact zW.nil) ?_; (refine zY.v rfl rfl (zQ rfl rfl rfl (by decide)) ?_); (refine zY.v rfl rfl (by exact a_sub rfl rfl rfl (by exact g1) rfl (by decide)) ?_); (refine zY.v rfl rfl (zV rfl rfl rfl (by decide)) ?_); refine zY.nil ?_) | refine zZ.yI rfl (by assumption) ?_ | refine zZ.exit ?_ | refine zZ.ret ?_))
      all_goals exact ⟨.inl rfl, gives1 rfl rfl rfl⟩
theorem sumRef_fn (b : List Int) (h64 : b.length ≤ 9223372036854775807) (hb : ∀ x ∈ b, 0 ≤ x ∧ x < 256) : Fn Tryz.prog 222 [.sl (byts b)] (.p (.val (.int .u32 (qY 0 b)))) := by
  have c1 := moreRef_fn 0 b (by decide) h64 hb
  refine wW Tryz.func222 rfl Tryz.ntmps222 (Nat.le_of_ble_eq_true rfl) ?_
  repeat' ((refine zZ.is ?_; first | refine zZ.seq ?_ | (refine zZ.isR (id := 0) ?_; refine zZ.zR [0] [] (by repeat' first | exact zX.nil | apply zX.p rfl) (by repeat' exact zW.nil) ?_; (refine zY.v rfl rfl (zV rfl rfl rfl (by decide)) ?_); refine zY.nil ?_) | (refine zZ.isR (id := 1) ?_; refine zZ.zR [0, 2] [] (by repeat' first | exact zX.nil | apply zX.p rfl) (by repeat' exact zW.nil) ?_; (refine zY.v rfl rfl (zQ rfl rfl rfl (by decide)) ?_); (refine zY.v rfl rfl (by exact zO (c1) rfl rfl rfl (by decide)) ?_); (refine zY.v rfl rfl (zV rfl rfl rfl (by decide)) ?_); refine zY.nil ?_) | refine zZ.ret ?_))
  all_goals exact ⟨.inl rfl, gives1 rfl rfl rfl⟩
end Go.Proofs.YtohlllohmoojiaaGreatDoor
/- Contracts of the leaf functions: keys and stamps. -/
namespace Go.Proofs.YtohlllohmoojiaaGreatDoor
set_option maxRecDepth 100000
set_option maxHeartbeats 16000000
open Go.RowKit
def stampB (n : Int) : Bool := decide (0 < n ∧ n < 4611686018427387904)
def rightB (k : Int) : Bool := decide (k / 2147483648 < 1073741824 ∧ k % 2147483648 ≤ 1073741824)
theorem and_mask31 (n : Int) (h0 : 0 ≤ n) (h1 : n < 18446744073709551616) : bits .and .u64 n 2147483647 = n % 2147483648 := by
  obtain ⟨k, rfl⟩ := Int.eq_ofNat_of_zero_le h0
  have h := bits_and_u64_nat k 2147483647 (by omega) (by omega)
  have e : k &&& 2147483647 = k % 2147483648 := Nat.and_two_pow_sub_one_eq_mod k 31
  rw [e] at h
  exact h
theorem stampB_yes {n : Int} (h : 0 < n) : stampB n = decide (n < 4611686018427387904) := by simp [stampB, h]
theorem stampB_yes' {n : Int} (h : 1 ≤ n) : stampB n = decide (n ≤ 4611686018427387903) := by
  unfold stampB
  rw [decide_eq_decide]
  omega
theorem stampB_no {n : Int} (h : n ≤ 0) : stampB n = false := by
  unfold stampB
  rw [decide_eq_false_iff_not]
  omega
theorem rightB_yes {n : Int} (h : n / 2147483648 < 1073741824) : rightB n = decide (n % 2147483648 ≤ 1073741824) := by simp [rightB, h]
theorem rightB_no {n : Int} (h : 1073741824 ≤ n / 2147483648) : rightB n = false := by
  unfold rightB
  rw [decide_eq_false_iff_not]
  omega
end Go.Proofs.YtohlllohmoojiaaGreatDoor
/- trial -/
namespace Go.Proofs.YtohlllohmoojiaaGreatDoor
set_option maxRecDepth 100000
set_option maxHeartbeats 16000000
open Go Go.RowKit
attribute [local irreducible] zY zZ Step zK Sub zS Fn
theorem eqB {a b : Bool} (h : a = b) : PV.val (.bool a) = PV.val (.bool b) := by rw [h]
theorem stamp_fn (n : Int) : Fn Tryz.prog 230 [.val (.int .u64 n)] (.p (.val (.bool (stampB n)))) := by
  refine wW Tryz.func230 rfl Tryz.ntmps230 (Nat.le_of_ble_eq_true rfl) ?_
  repeat' ((refine zZ.is ?_; first | refine zZ.seq ?_ | (refine zZ.isR (id := 0) ?_; refine zZ.zR [0] [] (by repeat' first | exact zX.nil | apply zX.p rfl) (by repeat' exact zW.nil) ?_; (refine zY.v rfl rfl (zV rfl rfl rfl (by decide)) ?_); refine zY.nil ?_) | (refine zZ.isR (id := 1) ?_; refine zZ.zR [0, 2] [] (by repeat' first | exact zX.nil | apply zX.p rfl) (by repeat' exact zW.nil) ?_; all_goals (refine zY.v rfl rfl (zQ rfl rfl rfl (by decide)) ?_); all_goals (refine zY.v rfl rfl (r_gtr rfl rfl rfl (by rfl) rfl (by decide)) ?_); all_goals (refine zY.v rfl rfl (zQ rfl rfl rfl (by decide)) ?_); all_goals (((fail_if_success refine zY.known rfl rfl rfl (by fail) ?_); refine zY.split rfl rfl rfl (fun h => ?_) (fun h => ?_) <;> first | refine zY.gY rfl rfl (by decide) rfl (by assumption) rfl (by decide) (zQ rfl rfl rfl (by decide)) ?_ | refine zY.gnT rfl rfl (by decide) rfl (by assumption) rfl (by decide) ?_)); all_goals (first | refine zY.gY rfl rfl (by decide) rfl (by assumption) rfl (by decide) (xI rfl rfl rfl (by rfl) rfl (by decide)) ?_ | refine zY.gnT rfl rfl (by decide) rfl (by assumption) rfl (by decide) ?_); all_goals (refine zY.v rfl rfl (by first | exact yU rfl rfl (by assumption) rfl rfl (by decide) | exact yP rfl rfl (by assumption) rfl rfl (by decide)) ?_); all_goals (refine zY.v rfl rfl (zV rfl rfl rfl (by decide)) ?_); all_goals (refine zY.nil ?_)) | refine zZ.ret ?_))
  all_goals refine ⟨.inl rfl, gives1 rfl rfl (eqB ?_)⟩
  all_goals simp only [decide_eq_true_eq, decide_eq_false_iff_not] at *
  · exact (stampB_yes (by omega)).symm
  · exact (stampB_no (by omega)).symm
theorem stampRef_fn (n : Int) : Fn Tryz.prog 228 [.val (.int .u64 n)] (.p (.val (.bool (stampB n)))) := by
  refine wW Tryz.func228 rfl Tryz.ntmps228 (Nat.le_of_ble_eq_true rfl) ?_
  repeat' ((refine zZ.is ?_; first | refine zZ.seq ?_ | (refine zZ.isR (id := 0) ?_; refine zZ.zR [0] [] (by repeat' first | exact zX.nil | apply zX.p rfl) (by repeat' exact zW.nil) ?_; (refine zY.v rfl rfl (zV rfl rfl rfl (by decide)) ?_); refine zY.nil ?_) | (refine zZ.isR (id := 1) ?_; refine zZ.zR [0, 2] [] (by repeat' first | exact zX.nil | apply zX.p rfl) (by repeat' exact zW.nil) ?_; all_goals (refine zY.v rfl rfl (zQ rfl rfl rfl (by decide)) ?_); all_goals (refine zY.v rfl rfl (r_geq rfl rfl rfl (by rfl) rfl (by decide)) ?_); all_goals (refine zY.v rfl rfl (zQ rfl rfl rfl (by decide)) ?_); all_goals (((fail_if_success refine zY.known rfl rfl rfl (by fail) ?_); refine zY.split rfl rfl rfl (fun h => ?_) (fun h => ?_) <;> first | refine zY.gY rfl rfl (by decide) rfl (by assumption) rfl (by decide) (zQ rfl rfl rfl (by decide)) ?_ | refine zY.gnT rfl rfl (by decide) rfl (by assumption) rfl (by decide) ?_)); all_goals (first | refine zY.gY rfl rfl (by decide) rfl (by assumption) rfl (by decide) (r_leq rfl rfl rfl (by rfl) rfl (by decide)) ?_ | refine zY.gnT rfl rfl (by decide) rfl (by assumption) rfl (by decide) ?_); all_goals (refine zY.v rfl rfl (by first | exact yU rfl rfl (by assumption) rfl rfl (by decide) | exact yP rfl rfl (by assumption) rfl rfl (by decide)) ?_); all_goals (refine zY.v rfl rfl (zV rfl rfl rfl (by decide)) ?_); all_goals (refine zY.nil ?_)) | refine zZ.ret ?_))
  all_goals refine ⟨.inl rfl, gives1 rfl rfl (eqB ?_)⟩
  all_goals simp only [decide_eq_true_eq, decide_eq_false_iff_not] at *
  · exact (stampB_yes' (by omega)).symm
  · exact (stampB_no (by omega)).symm
theorem right_fn (n : Int) (h0 : 0 ≤ n) (h1 : n < 18446744073709551616) : Fn Tryz.prog 231 [.val (.int .u64 n)] (.p (.val (.bool (rightB n)))) := by
  have hm := and_mask31 n h0 h1
  refine wW Tryz.func231 rfl Tryz.ntmps231 (Nat.le_of_ble_eq_true rfl) ?_
  repeat' ((refine zZ.is ?_; first | refine zZ.seq ?_ | (refine zZ.isR (id := 0) ?_; refine zZ.zR [0] [] (by repeat' first | exact zX.nil | apply zX.p rfl) (by repeat' exact zW.nil) ?_; (refine zY.v rfl rfl (zV rfl rfl rfl (by decide)) ?_); refine zY.nil ?_) | (refine zZ.isR (id := 1) ?_; refine zZ.zR [0, 2] [] (by repeat' first | exact zX.nil | apply zX.p rfl) (by repeat' exact zW.nil) ?_; all_goals (refine zY.v rfl rfl (zQ rfl rfl rfl (by decide)) ?_); all_goals (refine zY.v rfl rfl (by exact a_shr rfl rfl rfl (by decide) (by decide) (by (simp only [Int.reduceToNat, Int.reducePow]; rfl)) rfl (by decide)) ?_); all_goals (refine zY.v rfl rfl (xI rfl rfl rfl (by rfl) rfl (by decide)) ?_); all_goals (refine zY.v rfl rfl (zQ rfl rfl rfl (by decide)) ?_); all_goals (((fail_if_success refine zY.known rfl rfl rfl (by fail) ?_); refine zY.split rfl rfl rfl (fun h => ?_) (fun h => ?_) <;> first | refine zY.gY rfl rfl (by decide) rfl (by assumption) rfl (by decide) (zQ rfl rfl rfl (by decide)) ?_ | refine zY.gnT rfl rfl (by decide) rfl (by assumption) rfl (by decide) ?_)); all_goals (first | refine zY.gY rfl rfl (by decide) rfl (by assumption) rfl (by decide) (by exact a_and rfl rfl rfl (by exact hm) rfl (by decide)) ?_ | refine zY.gnT rfl rfl (by decide) rfl (by assumption) rfl (by decide) ?_); all_goals (first | refine zY.gY rfl rfl (by decide) rfl (by assumption) rfl (by decide) (r_leq rfl rfl rfl (by rfl) rfl (by decide)) ?_ | refine zY.gnT rfl rfl (by decide) rfl (by assumption) rfl (by decide) ?_); all_goals (refine zY.v rfl rfl (by first | exact yU rfl rfl (by assumption) rfl rfl (by decide) | exact yP rfl rfl (by assumption) rfl rfl (by decide)) ?_); all_goals (refine zY.v rfl rfl (zV rfl rfl rfl (by decide)) ?_); all_goals (refine zY.nil ?_)) | refine zZ.ret ?_))
  all_goals refine ⟨.inl rfl, gives1 rfl rfl (eqB ?_)⟩
  all_goals simp only [decide_eq_true_eq, decide_eq_false_iff_not] at *
  · exact (rightB_yes (by omega)).symm
  · exact (rightB_no (by omega)).symm
theorem split_fn (n : Int) (h0 : 0 ≤ n) (h1 : n < 18446744073709551616) : Fn Tryz.prog 88 [.val (.int .u64 n)] (.tup [.val (.int .i64 (n / 2147483648)), .val (.int .i64 (n % 2147483648 - 1))]) := by
  have hm := and_mask31 n h0 h1
  refine wW Tryz.func88 rfl Tryz.ntmps88 (Nat.le_of_ble_eq_true rfl) ?_
  repeat' ((refine zZ.is ?_; first | refine zZ.seq ?_ | (refine zZ.isR (id := 0) ?_; refine zZ.zR [0] [] (by repeat' first | exact zX.nil | apply zX.p rfl) (by repeat' exact zW.nil) ?_; (refine zY.v rfl rfl (zV rfl rfl rfl (by decide)) ?_); (refine zY.v rfl rfl (zV rfl rfl rfl (by decide)) ?_); refine zY.nil ?_) | (refine zZ.isR (id := 1) ?_; refine zZ.zR [0, 2, 3] [] (by repeat' first | exact zX.nil | apply zX.p rfl) (by repeat' exact zW.nil) ?_; (refine zY.v rfl rfl (zQ rfl rfl rfl (by decide)) ?_); (refine zY.v rfl rfl (by exact a_shr rfl rfl rfl (by decide) (by decide) (by (simp only [Int.reduceToNat, Int.reducePow]; rfl)) rfl (by decide)) ?_); (refine zY.v rfl rfl (by exact wG rfl rfl (by exact wrap_i64 _ (by omega)) rfl (by decide)) ?_); (refine zY.v rfl rfl (zQ rfl rfl rfl (by decide)) ?_); (refine zY.v rfl rfl (by exact a_and rfl rfl rfl (by exact hm) rfl (by decide)) ?_); (refine zY.v rfl rfl (by exact wG rfl rfl (by exact wrap_i64 _ (by omega)) rfl (by decide)) ?_); (refine zY.v rfl rfl (by exact a_sub rfl rfl rfl (by exact wrap_i64 _ (by omega)) rfl (by decide)) ?_); (refine zY.v rfl rfl (zV rfl rfl rfl (by decide)) ?_); (refine zY.v rfl rfl (zV rfl rfl rfl (by decide)) ?_); refine zY.nil ?_) | refine zZ.ret ?_))
  all_goals refine ⟨.inl rfl, givesT (ts := [2, 3]) rfl (by decide) rfl⟩
theorem rightRef_fn (n : Int) (h0 : 0 ≤ n) (h1 : n < 18446744073709551616) : Fn Tryz.prog 227 [.val (.int .u64 n)] (.p (.val (.bool (rightB n)))) := by
  have hq : n.tdiv 2147483648 = n / 2147483648 := Int.tdiv_eq_ediv_of_nonneg h0
  have hr : n.tmod 2147483648 = n % 2147483648 := Int.tmod_eq_emod_of_nonneg h0
  have hw : IntKind.u64.wrap (n.tdiv 2147483648) = n / 2147483648 := by rw [hq]; exact wrap_u64 _ (by omega)
  refine wW Tryz.func227 rfl Tryz.ntmps227 (Nat.le_of_ble_eq_true rfl) ?_
  repeat' ((refine zZ.is ?_; first | refine zZ.seq ?_ | (refine zZ.isR (id := 0) ?_; refine zZ.zR [0] [] (by repeat' first | exact zX.nil | apply zX.p rfl) (by repeat' exact zW.nil) ?_; (refine zY.v rfl rfl (zV rfl rfl rfl (by decide)) ?_); refine zY.nil ?_) | (refine zZ.isR (id := 1) ?_; refine zZ.zR [0, 2] [] (by repeat' first | exact zX.nil | apply zX.p rfl) (by repeat' exact zW.nil) ?_; all_goals (refine zY.v rfl rfl (zQ rfl rfl rfl (by decide)) ?_); all_goals (refine zY.v rfl rfl (by exact a_quo rfl rfl rfl (by decide) (by exact hw) rfl (by decide)) ?_); all_goals (refine zY.v rfl rfl (r_leq rfl rfl rfl (by rfl) rfl (by decide)) ?_); all_goals (refine zY.v rfl rfl (zQ rfl rfl rfl (by decide)) ?_); all_goals (((fail_if_success refine zY.known rfl rfl rfl (by fail) ?_); refine zY.split rfl rfl rfl (fun h => ?_) (fun h => ?_) <;> first | refine zY.gY rfl rfl (by decide) rfl (by assumption) rfl (by decide) (zQ rfl rfl rfl (by decide)) ?_ | refine zY.gnT rfl rfl (by decide) rfl (by assumption) rfl (by decide) ?_)); all_goals (first | refine zY.gY rfl rfl (by decide) rfl (by assumption) rfl (by decide) (by exact a_rem rfl rfl rfl (by decide) (by exact hr) rfl (by decide)) ?_ | refine zY.gnT rfl rfl (by decide) rfl (by assumption) rfl (by decide) ?_); all_goals (first | refine zY.gY rfl rfl (by decide) rfl (by assumption) rfl (by decide) (r_leq rfl rfl rfl (by rfl) rfl (by decide)) ?_ | refine zY.gnT rfl rfl (by decide) rfl (by assumption) rfl (by decide) ?_); all_goals (refine zY.v rfl rfl (by first | exact yU rfl rfl (by assumption) rfl rfl (by decide) | exact yP rfl rfl (by assumption) rfl rfl (by decide)) ?_); all_goals (refine zY.v rfl rfl (zV rfl rfl rfl (by decide)) ?_); all_goals (refine zY.nil ?_)) | refine zZ.ret ?_))
  all_goals refine ⟨.inl rfl, gives1 rfl rfl (eqB ?_)⟩
  all_goals simp only [decide_eq_true_eq, decide_eq_false_iff_not] at *
  · exact (rightB_yes (by omega)).symm
  · exact (rightB_no (by omega)).symm
end Go.Proofs.YtohlllohmoojiaaGreatDoor
/- Contracts of May, both: which entries may be. -/
namespace Go.Proofs.YtohlllohmoojiaaGreatDoor
set_option maxRecDepth 100000
set_option maxHeartbeats 16000000
open Go.RowKit
def mayB (k s y u v x : Int) : Bool :=
  if k = 1 then stampB s && rightB y && (if y % 2147483648 = 0 then decide (u = 0 ∧ v = 0) else stampB u && stampB v)
  else if k = 2 then stampB s && decide (y = 0 ∧ u = 0 ∧ v = 0 ∧ x = 0)
  else if k = 3 then decide (s ≤ 65536) && decide (y = 0 ∧ u = 0 ∧ v = 0 ∧ x = 0)
  else false
end Go.Proofs.YtohlllohmoojiaaGreatDoor
/- May, both, as contracts. -/
namespace Go.Proofs.YtohlllohmoojiaaGreatDoor
set_option maxRecDepth 100000
set_option maxHeartbeats 16000000
open Go Go.RowKit
attribute [local irreducible] zY zZ Step zK Sub zS Fn
/-- an entry, as it is passed -/
def entV (k s y u v x : Int) : PV := .agg [.val (.int .i64 k), .val (.int .u64 s), .val (.int .u64 y), .val (.int .u64 u), .val (.int .u64 v), .val (.int .u64 x)]
theorem may_fn (k s y u v x : Int) (h0 : 0 ≤ y) (h1 : y < 18446744073709551616) : Fn Tryz.prog 223 [entV k s y u v x] (.p (.val (.bool (mayB k s y u v x)))) := by
  refine wW Tryz.func223 rfl Tryz.ntmps223 (Nat.le_of_ble_eq_true rfl) ?_
  repeat' (first | (refine zZ.is ?_; first | refine zZ.seq ?_ | (refine zZ.iq 0 ?_; refine zZ.rqb _ K_5 K_4 ?_; (refine zY.m rfl rfl (yN rfl rfl rfl (by decide)) ?_); (refine zY.v rfl rfl (zV rfl rfl rfl (by decide)) ?_); refine zY.nil ?_) | (refine zZ.iq 1 ?_; refine zZ.rqa _ K_3 K_4 ?_; (refine zY.v rfl rfl (zA rfl rfl rfl (by decide)) ?_); (refine zY.v rfl rfl (zD rfl rfl rfl rfl rfl (by decide)) ?_); refine zY.nil ?_) | (refine zZ.iq 2 ?_; refine zZ.rqa _ K_a K_4 ?_; (refine zY.v rfl rfl (wM rfl rfl rfl (by rfl) rfl (by decide)) ?_); (refine zY.v rfl rfl (zV rfl rfl rfl (by decide)) ?_); refine zY.nil ?_) | (refine zZ.iq 3 ?_; refine zZ.rqa _ K_a K_4 ?_; all_goals (refine zY.v rfl rfl (zA rfl rfl rfl (by decide)) ?_); all_goals (refine zY.v rfl rfl (zD rfl rfl rfl rfl rfl (by decide)) ?_); all_goals (refine zY.v rfl rfl (by exact zO (stamp_fn _) rfl rfl rfl (by decide)) ?_); all_goals (refine zY.v rfl rfl (r_notB rfl rfl (by rfl) rfl (by decide)) ?_); all_goals (refine zY.v rfl rfl (zQ rfl rfl rfl (by decide)) ?_); all_goals (((fail_if_success refine zY.known rfl rfl rfl (by fail) ?_); refine zY.split rfl rfl rfl (fun h => ?_) (fun h => ?_) <;> first | refine zY.gY rfl rfl (by decide) rfl (by assumption) rfl (by decide) (zA rfl rfl rfl (by decide)) ?_ | refine zY.gnF rfl rfl (by decide) rfl (by assumption) rfl (by decide) ?_)); all_goals (first | refine zY.gY rfl rfl (by decide) rfl (by assumption) rfl (by decide) (zD rfl rfl rfl rfl rfl (by decide)) ?_ | refine zY.gnF rfl rfl (by decide) rfl (by assumption) rfl (by decide) ?_); all_goals (first | refine zY.gY rfl rfl (by decide) rfl (by assumption) rfl (by decide) (by exact zO (right_fn _ h0 h1) rfl rfl rfl (by decide)) ?_ | refine zY.gnF rfl rfl (by decide) rfl (by assumption) rfl (by decide) ?_); all_goals (first | refine zY.gY rfl rfl (by decide) rfl (by assumption) rfl (by decide) (r_notB rfl rfl (by rfl) rfl (by decide)) ?_ | refine zY.gnF rfl rfl (by decide) rfl (by assumption) rfl (by decide) ?_); all_goals (refine zY.v rfl rfl (by first | exact yU rfl rfl (by assumption) rfl rfl (by decide) | exact yP rfl rfl (by assumption) rfl rfl (by decide)) ?_); all_goals (refine zY.nil ?_)) | (refine zZ.iq 4 ?_; refine zZ.rqa _ K_a K_4 ?_; (refine zY.v rfl rfl (zV rfl rfl rfl (by decide)) ?_); refine zY.nil ?_) | (refine zZ.iq 5 ?_; refine zZ.rqa _ K_a K_4 ?_; (refine zY.v rfl rfl (zA rfl rfl rfl (by decide)) ?_); (refine zY.v rfl rfl (zD rfl rfl rfl rfl rfl (by decide)) ?_); (refine zY.v rfl rfl (by exact xJ (split_fn _ h0 h1) rfl rfl rfl (by decide)) ?_); (refine zY.v rfl rfl (xP rfl rfl rfl (by decide)) ?_); (refine zY.v rfl rfl (yK rfl rfl rfl rfl (by decide)) ?_); (refine zY.v rfl rfl (yK rfl rfl rfl rfl (by decide)) ?_); (refine zY.v rfl rfl (zV rfl rfl rfl (by decide)) ?_); (refine zY.v rfl rfl (zV rfl rfl rfl (by decide)) ?_); refine zY.nil ?_) | (refine zZ.iq 6 ?_; refine zZ.rqa _ K_1s K_4 ?_; (refine zY.v rfl rfl (zQ rfl rfl rfl (by decide)) ?_); (refine zY.v rfl rfl (xI rfl rfl rfl (by rfl) rfl (by decide)) ?_); refine zY.nil ?_) | (refine zZ.iq 7 ?_; refine zZ.rqa _ K_a K_4 ?_; all_goals (refine zY.v rfl rfl (zA rfl rfl rfl (by decide)) ?_); all_goals (refine zY.v rfl rfl (zD rfl rfl rfl rfl rfl (by decide)) ?_); all_goals (refine zY.v rfl rfl (wM rfl rfl rfl (by rfl) rfl (by decide)) ?_); all_goals (refine zY.v rfl rfl (zQ rfl rfl rfl (by decide)) ?_); all_goals (((fail_if_success refine zY.known rfl rfl rfl (by fail) ?_); refine zY.split rfl rfl rfl (fun h => ?_) (fun h => ?_) <;> first | refine zY.gY rfl rfl (by decide) rfl (by assumption) rfl (by decide) (zA rfl rfl rfl (by decide)) ?_ | refine zY.gnT rfl rfl (by decide) rfl (by assumption) rfl (by decide) ?_)); all_goals (first | refine zY.gY rfl rfl (by decide) rfl (by assumption) rfl (by decide) (zD rfl rfl rfl rfl rfl (by decide)) ?_ | refine zY.gnT rfl rfl (by decide) rfl (by assumption) rfl (by decide) ?_); all_goals (first | refine zY.gY rfl rfl (by decide) rfl (by assumption) rfl (by decide) (wM rfl rfl rfl (by rfl) rfl (by decide)) ?_ | refine zY.gnT rfl rfl (by decide) rfl (by assumption) rfl (by decide) ?_); all_goals (refine zY.v rfl rfl (by first | exact yU rfl rfl (by assumption) rfl rfl (by decide) | exact yP rfl rfl (by assumption) rfl rfl (by decide)) ?_); all_goals (refine zY.v rfl rfl (zV rfl rfl rfl (by decide)) ?_); all_goals (refine zY.nil ?_)) | (refine zZ.iq 8 ?_; refine zZ.rqa _ K_a K_4 ?_; all_goals (refine zY.v rfl rfl (zA rfl rfl rfl (by decide)) ?_); all_goals (refine zY.v rfl rfl (zD rfl rfl rfl rfl rfl (by decide)) ?_); all_goals (refine zY.v rfl rfl (by exact zO (stamp_fn _) rfl rfl rfl (by decide)) ?_); all_goals (refine zY.v rfl rfl (zQ rfl rfl rfl (by decide)) ?_); all_goals (((fail_if_success refine zY.known rfl rfl rfl (by fail) ?_); refine zY.split rfl rfl rfl (fun h => ?_) (fun h => ?_) <;> first | refine zY.gY rfl rfl (by decide) rfl (by assumption) rfl (by decide) (zA rfl rfl rfl (by decide)) ?_ | refine zY.gnT rfl rfl (by decide) rfl (by assumption) rfl (by decide) ?_)); all_goals (first | refine zY.gY rfl rfl (by decide) rfl (by assumption) rfl (by decide) (zD rfl rfl rfl rfl rfl (by decide)) ?_ | refine zY.gnT rfl rfl (by decide) rfl (by assumption) rfl (by decide) ?_); all_goals (first | refine zY.gY rfl rfl (by decide) rfl (by assumption) rfl (by decide) (by exact zO (stamp_fn _) rfl rfl rfl (by decide)) ?_ | refine zY.gnT rfl rfl (by decide) rfl (by assumption) rfl (by decide) ?_); all_goals (refine zY.v rfl rfl (by first | exact yU rfl rfl (by assumption) rfl rfl (by decide) | exact yP rfl rfl (by assumption) rfl rfl (by decide)) ?_); all_goals (refine zY.v rfl rfl (zV rfl rfl rfl (by decide)) ?_); all_goals (refine zY.nil ?_)) | (refine zZ.iq 9 ?_; refine zZ.rqa _ K_a K_4 ?_; (refine zY.v rfl rfl (wM rfl rfl rfl (by rfl) rfl (by decide)) ?_); (refine zY.v rfl rfl (zV rfl rfl rfl (by decide)) ?_); refine zY.nil ?_) | (refine zZ.iq 10 ?_; refine zZ.rqa _ K_a K_4 ?_; all_goals (refine zY.v rfl rfl (zA rfl rfl rfl (by decide)) ?_); all_goals (refine zY.v rfl rfl (zD rfl rfl rfl rfl rfl (by decide)) ?_); all_goals (refine zY.v rfl rfl (by exact zO (stamp_fn _) rfl rfl rfl (by decide)) ?_); all_goals (refine zY.v rfl rfl (zQ rfl rfl rfl (by decide)) ?_); all_goals (((fail_if_success refine zY.known rfl rfl rfl (by fail) ?_); refine zY.split rfl rfl rfl (fun h => ?_) (fun h => ?_) <;> first | refine zY.gY rfl rfl (by decide) rfl (by assumption) rfl (by decide) (yX rfl rfl rfl (by rfl) (by rfl) rfl (by decide)) ?_ | refine zY.gnT rfl rfl (by decide) rfl (by assumption) rfl (by decide) ?_)); all_goals (first | refine zY.gY rfl rfl (by decide) rfl (by assumption) rfl (by decide) (zA rfl rfl rfl (by decide)) ?_ | refine zY.gnT rfl rfl (by decide) rfl (by assumption) rfl (by decide) ?_); all_goals (first | refine zY.gY rfl rfl (by decide) rfl (by assumption) rfl (by decide) (zD rfl rfl rfl rfl rfl (by decide)) ?_ | refine zY.gnT rfl rfl (by decide) rfl (by assumption) rfl (by decide) ?_); all_goals (first | refine zY.gY rfl rfl (by decide) rfl (by assumption) rfl (by decide) (zA rfl rfl rfl (by decide)) ?_ | refine zY.gnT rfl rfl (by decide) rfl (by assumption) rfl (by decide) ?_); all_goals (first | refine zY.gY rfl rfl (by decide) rfl (by assumption) rfl (by decide) (zD rfl rfl rfl rfl rfl (by decide)) ?_ | refine zY.gnT rfl rfl (by decide) rfl (by assumption) rfl (by decide) ?_); all_goals (first | refine zY.gY rfl rfl (by decide) rfl (by assumption) rfl (by decide) (xR rfl (by rfl) (by rfl) (by rfl) (by rfl) rfl (by decide)) ?_ | refine zY.gnT rfl rfl (by decide) rfl (by assumption) rfl (by decide) ?_); all_goals (first | refine zY.gY rfl rfl (by decide) rfl (by assumption) rfl (by decide) (r_eqlT rfl rfl rfl rfl rfl rfl (by rfl) (by rfl) rfl (by decide)) ?_ | refine zY.gnT rfl rfl (by decide) rfl (by assumption) rfl (by decide) ?_); all_goals (refine zY.v rfl rfl (by first | exact yU rfl rfl (by assumption) rfl rfl (by decide) | exact yP rfl rfl (by assumption) rfl rfl (by decide)) ?_); all_goals (refine zY.v rfl rfl (zV rfl rfl rfl (by decide)) ?_); all_goals (refine zY.nil ?_)) | (refine zZ.iq 11 ?_; refine zZ.rqa _ K_a K_4 ?_; (refine zY.v rfl rfl (wM rfl rfl rfl (by rfl) rfl (by decide)) ?_); (refine zY.v rfl rfl (zV rfl rfl rfl (by decide)) ?_); refine zY.nil ?_) | (refine zZ.iq 12 ?_; refine zZ.rqa _ K_3 K_4 ?_; all_goals (refine zY.v rfl rfl (zA rfl rfl rfl (by decide)) ?_); all_goals (refine zY.v rfl rfl (zD rfl rfl rfl rfl rfl (by decide)) ?_); all_goals (refine zY.v rfl rfl (r_leq rfl rfl rfl (by rfl) rfl (by decide)) ?_); all_goals (refine zY.v rfl rfl (zQ rfl rfl rfl (by decide)) ?_); all_goals (((fail_if_success refine zY.known rfl rfl rfl (by fail) ?_); refine zY.split rfl rfl rfl (fun h => ?_) (fun h => ?_) <;> first | refine zY.gY rfl rfl (by decide) rfl (by assumption) rfl (by decide) (yX rfl rfl rfl (by rfl) (by rfl) rfl (by decide)) ?_ | refine zY.gnT rfl rfl (by decide) rfl (by assumption) rfl (by decide) ?_)); all_goals (first | refine zY.gY rfl rfl (by decide) rfl (by assumption) rfl (by decide) (zA rfl rfl rfl (by decide)) ?_ | refine zY.gnT rfl rfl (by decide) rfl (by assumption) rfl (by decide) ?_); all_goals (first | refine zY.gY rfl rfl (by decide) rfl (by assumption) rfl (by decide) (zD rfl rfl rfl rfl rfl (by decide)) ?_ | refine zY.gnT rfl rfl (by decide) rfl (by assumption) rfl (by decide) ?_); all_goals (first | refine zY.gY rfl rfl (by decide) rfl (by assumption) rfl (by decide) (zA rfl rfl rfl (by decide)) ?_ | refine zY.gnT rfl rfl (by decide) rfl (by assumption) rfl (by decide) ?_); all_goals (first | refine zY.gY rfl rfl (by decide) rfl (by assumption) rfl (by decide) (zD rfl rfl rfl rfl rfl (by decide)) ?_ | refine zY.gnT rfl rfl (by decide) rfl (by assumption) rfl (by decide) ?_); all_goals (first | refine zY.gY rfl rfl (by decide) rfl (by assumption) rfl (by decide) (xR rfl (by rfl) (by rfl) (by rfl) (by rfl) rfl (by decide)) ?_ | refine zY.gnT rfl rfl (by decide) rfl (by assumption) rfl (by decide) ?_); all_goals (first | refine zY.gY rfl rfl (by decide) rfl (by assumption) rfl (by decide) (r_eqlT rfl rfl rfl rfl rfl rfl (by rfl) (by rfl) rfl (by decide)) ?_ | refine zY.gnT rfl rfl (by decide) rfl (by assumption) rfl (by decide) ?_); all_goals (refine zY.v rfl rfl (by first | exact yU rfl rfl (by assumption) rfl rfl (by decide) | exact yP rfl rfl (by assumption) rfl rfl (by decide)) ?_); all_goals (refine zY.v rfl rfl (zV rfl rfl rfl (by decide)) ?_); all_goals (refine zY.nil ?_)) | (refine zZ.isR (id := 13) ?_; refine zZ.zR [2] [1] (by repeat' first | exact zX.nil | apply zX.p rfl) (by repeat' first | exact zW.nil | apply zW.boxP rfl rfl) ?_; (refine zY.v rfl rfl (zV rfl rfl rfl (by decide)) ?_); refine zY.nil ?_) | refine zZ.yM rfl (by first | assumption | with_reducible rfl) ?_ | refine zZ.cond rfl (fun h => ?_) (fun h => ?_) | refine zZ.skip ?_ | refine zZ.block ?_ | refine zZ.ret ?_) | refine zG.r ?_ | refine yZ.r ?_)
  all_goals refine ⟨.inl rfl, gives1 rfl rfl (eqB ?_)⟩
  all_goals simp only [decide_eq_true_eq, decide_eq_false_iff_not, Bool.not_eq_true', Bool.not_eq_false'] at *
  all_goals try subst k
  all_goals try (have hq : y % 2147483648 = 0 := by omega)
  all_goals try (have hq : ¬ y % 2147483648 = 0 := by omega)
  all_goals (unfold mayB; (simp [*]; done))
theorem mayRef_fn (k s y u v x : Int) (h0 : 0 ≤ y) (h1 : y < 18446744073709551616) : Fn Tryz.prog 220 [entV k s y u v x] (.p (.val (.bool (mayB k s y u v x)))) := by
  refine wW Tryz.func220 rfl Tryz.ntmps220 (Nat.le_of_ble_eq_true rfl) ?_
  have hr : y.tmod 2147483648 = y % 2147483648 := Int.tmod_eq_emod_of_nonneg h0
  repeat' (first | (refine zZ.is ?_; first | refine zZ.seq ?_ | (refine zZ.iq 0 ?_; refine zZ.rqb _ K_5 K_4 ?_; (refine zY.m rfl rfl (yN rfl rfl rfl (by decide)) ?_); (refine zY.v rfl rfl (zV rfl rfl rfl (by decide)) ?_); refine zY.nil ?_) | (refine zZ.iq 1 ?_; refine zZ.rqa _ K_3 K_4 ?_; (refine zY.v rfl rfl (zA rfl rfl rfl (by decide)) ?_); (refine zY.v rfl rfl (zD rfl rfl rfl (by rfl) rfl (by decide)) ?_); (refine zY.v rfl rfl (wM rfl rfl rfl (by rfl) rfl (by decide)) ?_); refine zY.nil ?_) | (refine zZ.iq 2 ?_; refine zZ.rqa _ K_3 K_4 ?_; (refine zY.v rfl rfl (zA rfl rfl rfl (by decide)) ?_); (refine zY.v rfl rfl (zD rfl rfl rfl (by rfl) rfl (by decide)) ?_); (refine zY.v rfl rfl (by exact zO (rightRef_fn _ h0 h1) rfl rfl rfl (by decide)) ?_); (refine zY.v rfl rfl (zV rfl rfl rfl (by decide)) ?_); refine zY.nil ?_) | (refine zZ.iq 3 ?_; refine zZ.rqa _ K_j K_4 ?_; all_goals (refine zY.v rfl rfl (zQ rfl rfl rfl (by decide)) ?_); all_goals (refine zY.v rfl rfl (r_notB rfl rfl (by rfl) rfl (by decide)) ?_); all_goals (refine zY.v rfl rfl (zQ rfl rfl rfl (by decide)) ?_); all_goals (((fail_if_success refine zY.known rfl rfl rfl (by fail) ?_); refine zY.split rfl rfl rfl (fun h => ?_) (fun h => ?_) <;> first | refine zY.gY rfl rfl (by decide) rfl (by assumption) rfl (by decide) (zA rfl rfl rfl (by decide)) ?_ | refine zY.gnF rfl rfl (by decide) rfl (by assumption) rfl (by decide) ?_)); all_goals (first | refine zY.gY rfl rfl (by decide) rfl (by assumption) rfl (by decide) (zD rfl rfl rfl (by rfl) rfl (by decide)) ?_ | refine zY.gnF rfl rfl (by decide) rfl (by assumption) rfl (by decide) ?_); all_goals (first | refine zY.gY rfl rfl (by decide) rfl (by assumption) rfl (by decide) (by exact zO (stampRef_fn _) rfl rfl rfl (by decide)) ?_ | refine zY.gnF rfl rfl (by decide) rfl (by assumption) rfl (by decide) ?_); all_goals (first | refine zY.gY rfl rfl (by decide) rfl (by assumption) rfl (by decide) (r_notB rfl rfl (by rfl) rfl (by decide)) ?_ | refine zY.gnF rfl rfl (by decide) rfl (by assumption) rfl (by decide) ?_); all_goals (refine zY.v rfl rfl (by first | exact yU rfl rfl (by assumption) rfl rfl (by decide) | exact yP rfl rfl (by assumption) rfl rfl (by decide)) ?_); all_goals (refine zY.nil ?_)) | (refine zZ.iq 4 ?_; refine zZ.rqa _ K_3 K_4 ?_; (refine zY.v rfl rfl (zV rfl rfl rfl (by decide)) ?_); refine zY.nil ?_) | (refine zZ.iq 5 ?_; refine zZ.rqa _ K_3 K_4 ?_; (refine zY.v rfl rfl (zA rfl rfl rfl (by decide)) ?_); (refine zY.v rfl rfl (zD rfl rfl rfl (by rfl) rfl (by decide)) ?_); (refine zY.v rfl rfl (by exact a_rem rfl rfl rfl (by decide) (by exact hr) rfl (by decide)) ?_); (refine zY.v rfl rfl (wM rfl rfl rfl (by rfl) rfl (by decide)) ?_); refine zY.nil ?_) | (refine zZ.iq 6 ?_; refine zZ.rqa _ K_3 K_4 ?_; all_goals (refine zY.v rfl rfl (zA rfl rfl rfl (by decide)) ?_); all_goals (refine zY.v rfl rfl (zD rfl rfl rfl (by rfl) rfl (by decide)) ?_); all_goals (refine zY.v rfl rfl (wM rfl rfl rfl (by rfl) rfl (by decide)) ?_); all_goals (refine zY.v rfl rfl (zQ rfl rfl rfl (by decide)) ?_); all_goals (((fail_if_success refine zY.known rfl rfl rfl (by fail) ?_); refine zY.split rfl rfl rfl (fun h => ?_) (fun h => ?_) <;> first | refine zY.gY rfl rfl (by decide) rfl (by assumption) rfl (by decide) (zA rfl rfl rfl (by decide)) ?_ | refine zY.gnT rfl rfl (by decide) rfl (by assumption) rfl (by decide) ?_)); all_goals (first | refine zY.gY rfl rfl (by decide) rfl (by assumption) rfl (by decide) (zD rfl rfl rfl (by rfl) rfl (by decide)) ?_ | refine zY.gnT rfl rfl (by decide) rfl (by assumption) rfl (by decide) ?_); all_goals (first | refine zY.gY rfl rfl (by decide) rfl (by assumption) rfl (by decide) (wM rfl rfl rfl (by rfl) rfl (by decide)) ?_ | refine zY.gnT rfl rfl (by decide) rfl (by assumption) rfl (by decide) ?_); all_goals (refine zY.v rfl rfl (by first | exact yU rfl rfl (by assumption) rfl rfl (by decide) | exact yP rfl rfl (by assumption) rfl rfl (by decide)) ?_); all_goals (refine zY.v rfl rfl (zV rfl rfl rfl (by decide)) ?_); all_goals (refine zY.nil ?_)) | (refine zZ.iq 7 ?_; refine zZ.rqa _ K_3 K_4 ?_; all_goals (refine zY.v rfl rfl (zA rfl rfl rfl (by decide)) ?_); all_goals (refine zY.v rfl rfl (zD rfl rfl rfl (by rfl) rfl (by decide)) ?_); all_goals (refine zY.v rfl rfl (by exact zO (stampRef_fn _) rfl rfl rfl (by decide)) ?_); all_goals (refine zY.v rfl rfl (zQ rfl rfl rfl (by decide)) ?_); all_goals (((fail_if_success refine zY.known rfl rfl rfl (by fail) ?_); refine zY.split rfl rfl rfl (fun h => ?_) (fun h => ?_) <;> first | refine zY.gY rfl rfl (by decide) rfl (by assumption) rfl (by decide) (zA rfl rfl rfl (by decide)) ?_ | refine zY.gnT rfl rfl (by decide) rfl (by assumption) rfl (by decide) ?_)); all_goals (first | refine zY.gY rfl rfl (by decide) rfl (by assumption) rfl (by decide) (zD rfl rfl rfl (by rfl) rfl (by decide)) ?_ | refine zY.gnT rfl rfl (by decide) rfl (by assumption) rfl (by decide) ?_); all_goals (first | refine zY.gY rfl rfl (by decide) rfl (by assumption) rfl (by decide) (by exact zO (stampRef_fn _) rfl rfl rfl (by decide)) ?_ | refine zY.gnT rfl rfl (by decide) rfl (by assumption) rfl (by decide) ?_); all_goals (refine zY.v rfl rfl (by first | exact yU rfl rfl (by assumption) rfl rfl (by decide) | exact yP rfl rfl (by assumption) rfl rfl (by decide)) ?_); all_goals (refine zY.v rfl rfl (zV rfl rfl rfl (by decide)) ?_); all_goals (refine zY.nil ?_)) | (refine zZ.iq 8 ?_; refine zZ.rqa _ K_3 K_4 ?_; all_goals (refine zY.v rfl rfl (zA rfl rfl rfl (by decide)) ?_); all_goals (refine zY.v rfl rfl (zD rfl rfl rfl (by rfl) rfl (by decide)) ?_); all_goals (refine zY.v rfl rfl (wS rfl rfl rfl (by rfl) rfl (by decide)) ?_); all_goals (refine zY.v rfl rfl (zQ rfl rfl rfl (by decide)) ?_); all_goals (((fail_if_success refine zY.known rfl rfl rfl (by fail) ?_); refine zY.split rfl rfl rfl (fun h => ?_) (fun h => ?_) <;> first | refine zY.gY rfl rfl (by decide) rfl (by assumption) rfl (by decide) (zA rfl rfl rfl (by decide)) ?_ | refine zY.gnF rfl rfl (by decide) rfl (by assumption) rfl (by decide) ?_)); all_goals (first | refine zY.gY rfl rfl (by decide) rfl (by assumption) rfl (by decide) (zD rfl rfl rfl (by rfl) rfl (by decide)) ?_ | refine zY.gnF rfl rfl (by decide) rfl (by assumption) rfl (by decide) ?_); all_goals (first | refine zY.gY rfl rfl (by decide) rfl (by assumption) rfl (by decide) (wS rfl rfl rfl (by rfl) rfl (by decide)) ?_ | refine zY.gnF rfl rfl (by decide) rfl (by assumption) rfl (by decide) ?_); all_goals (refine zY.v rfl rfl (by first | exact yU rfl rfl (by assumption) rfl rfl (by decide) | exact yP rfl rfl (by assumption) rfl rfl (by decide)) ?_); all_goals (refine zY.v rfl rfl (zQ rfl rfl rfl (by decide)) ?_); all_goals (first | refine zY.gnF rfl rfl (by decide) rfl (by with_reducible rfl) rfl (by decide) ?_ | ((fail_if_success refine zY.known rfl rfl rfl (by fail) ?_); refine zY.split rfl rfl rfl (fun h => ?_) (fun h => ?_) <;> first | refine zY.gY rfl rfl (by decide) rfl (by assumption) rfl (by decide) (zA rfl rfl rfl (by decide)) ?_ | refine zY.gnF rfl rfl (by decide) rfl (by assumption) rfl (by decide) ?_)); all_goals (first | refine zY.gY rfl rfl (by decide) rfl (by assumption) rfl (by decide) (zD rfl rfl rfl (by rfl) rfl (by decide)) ?_ | refine zY.gnF rfl rfl (by decide) rfl (by first | assumption | with_reducible rfl) rfl (by decide) ?_); all_goals (first | refine zY.gY rfl rfl (by decide) rfl (by assumption) rfl (by decide) (wS rfl rfl rfl (by rfl) rfl (by decide)) ?_ | refine zY.gnF rfl rfl (by decide) rfl (by first | assumption | with_reducible rfl) rfl (by decide) ?_); all_goals (refine zY.v rfl rfl (by first | exact yU rfl rfl (by first | assumption | with_reducible rfl) rfl rfl (by decide) | exact yP rfl rfl (by assumption) rfl rfl (by decide)) ?_); all_goals (refine zY.v rfl rfl (zQ rfl rfl rfl (by decide)) ?_); all_goals (first | refine zY.gnF rfl rfl (by decide) rfl (by with_reducible rfl) rfl (by decide) ?_ | ((fail_if_success refine zY.known rfl rfl rfl (by fail) ?_); refine zY.split rfl rfl rfl (fun h => ?_) (fun h => ?_) <;> first | refine zY.gY rfl rfl (by decide) rfl (by assumption) rfl (by decide) (zA rfl rfl rfl (by decide)) ?_ | refine zY.gnF rfl rfl (by decide) rfl (by assumption) rfl (by decide) ?_)); all_goals (first | refine zY.gY rfl rfl (by decide) rfl (by assumption) rfl (by decide) (zD rfl rfl rfl (by rfl) rfl (by decide)) ?_ | refine zY.gnF rfl rfl (by decide) rfl (by first | assumption | with_reducible rfl) rfl (by decide) ?_); all_goals (first | refine zY.gY rfl rfl (by decide) rfl (by assumption) rfl (by decide) (wS rfl rfl rfl (by rfl) rfl (by decide)) ?_ | refine zY.gnF rfl rfl (by decide) rfl (by first | assumption | with_reducible rfl) rfl (by decide) ?_); all_goals (refine zY.v rfl rfl (by first | exact yU rfl rfl (by first | assumption | with_reducible rfl) rfl rfl (by decide) | exact yP rfl rfl (by assumption) rfl rfl (by decide)) ?_); all_goals (refine zY.nil ?_)) | (refine zZ.iq 9 ?_; refine zZ.rqa _ K_3 K_4 ?_; (refine zY.v rfl rfl (zV rfl rfl rfl (by decide)) ?_); refine zY.nil ?_) | (refine zZ.iq 10 ?_; refine zZ.rqa _ K_3 K_4 ?_; all_goals (refine zY.v rfl rfl (zA rfl rfl rfl (by decide)) ?_); all_goals (refine zY.v rfl rfl (zD rfl rfl rfl (by rfl) rfl (by decide)) ?_); all_goals (refine zY.v rfl rfl (wM rfl rfl rfl (by rfl) rfl (by decide)) ?_); all_goals (refine zY.v rfl rfl (zQ rfl rfl rfl (by decide)) ?_); all_goals (((fail_if_success refine zY.known rfl rfl rfl (by fail) ?_); refine zY.split rfl rfl rfl (fun h => ?_) (fun h => ?_) <;> first | refine zY.gY rfl rfl (by decide) rfl (by assumption) rfl (by decide) (zA rfl rfl rfl (by decide)) ?_ | refine zY.gnT rfl rfl (by decide) rfl (by assumption) rfl (by decide) ?_)); all_goals (first | refine zY.gY rfl rfl (by decide) rfl (by assumption) rfl (by decide) (zD rfl rfl rfl (by rfl) rfl (by decide)) ?_ | refine zY.gnT rfl rfl (by decide) rfl (by assumption) rfl (by decide) ?_); all_goals (first | refine zY.gY rfl rfl (by decide) rfl (by assumption) rfl (by decide) (by exact zO (stampRef_fn _) rfl rfl rfl (by decide)) ?_ | refine zY.gnT rfl rfl (by decide) rfl (by assumption) rfl (by decide) ?_); all_goals (refine zY.v rfl rfl (by first | exact yU rfl rfl (by assumption) rfl rfl (by decide) | exact yP rfl rfl (by assumption) rfl rfl (by decide)) ?_); all_goals (refine zY.v rfl rfl (zQ rfl rfl rfl (by decide)) ?_); all_goals (first | refine zY.gY rfl rfl (by decide) rfl (by with_reducible rfl) rfl (by decide) (zA rfl rfl rfl (by decide)) ?_ | ((fail_if_success refine zY.known rfl rfl rfl (by fail) ?_); refine zY.split rfl rfl rfl (fun h => ?_) (fun h => ?_) <;> first | refine zY.gY rfl rfl (by decide) rfl (by assumption) rfl (by decide) (zA rfl rfl rfl (by decide)) ?_ | refine zY.gnF rfl rfl (by decide) rfl (by assumption) rfl (by decide) ?_)); all_goals (first | refine zY.gY rfl rfl (by decide) rfl (by first | assumption | with_reducible rfl) rfl (by decide) (zD rfl rfl rfl (by rfl) rfl (by decide)) ?_ | refine zY.gnF rfl rfl (by decide) rfl (by assumption) rfl (by decide) ?_); all_goals (first | refine zY.gY rfl rfl (by decide) rfl (by first | assumption | with_reducible rfl) rfl (by decide) (wM rfl rfl rfl (by rfl) rfl (by decide)) ?_ | refine zY.gnF rfl rfl (by decide) rfl (by assumption) rfl (by decide) ?_); all_goals (first | refine zY.gY rfl rfl (by decide) rfl (by first | assumption | with_reducible rfl) rfl (by decide) (zQ rfl rfl rfl (by decide)) ?_ | refine zY.gnF rfl rfl (by decide) rfl (by assumption) rfl (by decide) ?_); all_goals (first | refine zY.gU rfl rfl (by decide) (by rfl) rfl (by decide) ?_ | ((fail_if_success refine zY.known rfl rfl rfl (by fail) ?_); refine zY.split rfl rfl rfl (fun h => ?_) (fun h => ?_) <;> first | refine zY.gY rfl rfl (by decide) rfl (by assumption) rfl (by decide) (zA rfl rfl rfl (by decide)) ?_ | refine zY.gnT rfl rfl (by decide) rfl (by assumption) rfl (by decide) ?_)); all_goals (first | refine zY.gU rfl rfl (by decide) (by rfl) rfl (by decide) ?_ | refine zY.gY rfl rfl (by decide) rfl (by assumption) rfl (by decide) (zD rfl rfl rfl (by rfl) rfl (by decide)) ?_ | refine zY.gnT rfl rfl (by decide) rfl (by assumption) rfl (by decide) ?_); all_goals (first | refine zY.gU rfl rfl (by decide) (by rfl) rfl (by decide) ?_ | refine zY.gY rfl rfl (by decide) rfl (by assumption) rfl (by decide) (r_leq rfl rfl rfl (by rfl) rfl (by decide)) ?_ | refine zY.gnT rfl rfl (by decide) rfl (by assumption) rfl (by decide) ?_); all_goals (first | refine zY.gY rfl rfl (by decide) rfl (by first | assumption | with_reducible rfl) rfl (by decide) (by first | exact yU rfl rfl (by assumption) rfl rfl (by decide) | exact yP rfl rfl (by assumption) rfl rfl (by decide)) ?_ | refine zY.gnF rfl rfl (by decide) rfl (by assumption) rfl (by decide) ?_); all_goals (refine zY.v rfl rfl (by first | exact yU rfl rfl (by assumption) rfl rfl (by decide) | exact yP rfl rfl (by first | assumption | with_reducible rfl) rfl rfl (by decide)) ?_); all_goals (refine zY.v rfl rfl (zV rfl rfl rfl (by decide)) ?_); all_goals (refine zY.nil ?_)) | refine zZ.yM rfl (by first | assumption | with_reducible rfl) ?_ | refine zZ.cond rfl (fun h => ?_) (fun h => ?_) | refine zZ.skip ?_ | refine zZ.ret ?_) | refine zG.r ?_)
  all_goals refine ⟨.inl rfl, gives1 rfl rfl (eqB ?_)⟩
  all_goals simp only [decide_eq_true_eq, decide_eq_false_iff_not, Bool.not_eq_true', Bool.not_eq_false'] at *
  all_goals try subst k
  all_goals (unfold mayB; first | (simp [*]; done) | (simp [*]; omega))
end Go.Proofs.YtohlllohmoojiaaGreatDoor
/- Contracts of eight and number (the reference's). -/
namespace Go.Proofs.YtohlllohmoojiaaGreatDoor
set_option maxRecDepth 100000
set_option maxHeartbeats 16000000
open Go.RowKit
theorem Tryz.infoByte : (Tryz.prog.info? 5).map (fun i => (i.zero, i.size, i.bytes)) = some (some (.int .u8 0), 1, 1) := by kernel_rfl
/-- the k lowest bytes of a number -/
def bytesOf : Nat → Int → List Int
  | 0, _ => []
  | k + 1, n => n % 256 :: bytesOf k (n / 256)
theorem pow256_pos (k : Nat) : (0 : Int) < 256 ^ k := by
  induction k with
  | zero => decide
  | succ k ih => rw [Int.pow_succ]; omega
theorem bytesOf_length (k : Nat) (n : Int) : (bytesOf k n).length = k := by
  induction k generalizing n with
  | zero => rfl
  | succ k ih => simp [bytesOf, ih]
theorem bytesOf_snoc (k : Nat) (n : Int) : bytesOf (k + 1) n = bytesOf k n ++ [n / 256 ^ k % 256] := by
  induction k generalizing n with
  | zero => simp [bytesOf]
  | succ k ih =>
    rw [bytesOf, ih (n / 256)]
    simp only [bytesOf, List.cons_append]
    rw [Int.ediv_ediv_of_nonneg (by omega), Int.pow_succ, Int.mul_comm]
theorem eight_any (n : Int) (w : World) (h0 : 0 ≤ n) (h1 : n < 18446744073709551616) :
    Calls Tryz.prog 221 #[.int .u64 n] w fun e w' =>
      ∃ v, e = .returned v ∧ w'.ownsRow w.heap.size 5 1 v 8 ((bytesOf 8 n).map (Value.int .u8)) ∧ Below w.heap.size w w' := by
  obtain ⟨i0, hi, hz0, hz1, hz2⟩ := info_parts Tryz.infoByte
  go_enter Tryz.func221, Tryz.ntmps221
  go_wp2_with fail
  go_loopw [0, 3, 4] (fun m v i wr => ∃ k : Nat, k ≤ 8 ∧ i = .int .i64 k ∧ (∃ q : Int, m = .int .u64 q ∧ 0 ≤ q ∧ q < 18446744073709551616 ∧ Hid (q = n / 256 ^ k)) ∧ wr.ownsRow w.heap.size 5 1 v k ((bytesOf k n).map (Value.int .u8)) ∧ Below w.heap.size w wr)
     (fun _ _ i _ => 8 - (intOf i).toNat)
  case atStart => exact ⟨0, by omega, rfl, ⟨n, rfl, h0, h1, by show n = _; simp⟩, World.ownsRow_nil _ _ _ _, Below.refl _ _⟩
  case round =>
    obtain ⟨k, hk, rfl, ⟨q, rfl, hq0, hq1, HQ⟩, hown, hb⟩ := hrel
    by_cases hlt : k < 8
    · have hsz := hb.size
      go_wp2_with (at_builtin; refine wpList_append_own _ rfl _ _ 31 rfl w.heap.size 5 i0 (.int .u8 0) 1 1 Tryz.underlying31 hi hz0 hz1 hz2 rfl (by decide) _ _ _ rfl (hown.alloc _) ⟨wr.heap.size, 0, none⟩ 1 1 [.int .u8 (q % 256)] rfl rfl cells_new (one_cell rfl) (by unfold maxLen; omega) (by omega) (by simp; omega) ?_)
      intro v' w1 hown' hgrow _
      have hown2 : w1.ownsRow w.heap.size 5 1 v' (k + 1) ((bytesOf (k + 1) n).map (Value.int .u8)) := by
        rw [bytesOf_snoc, List.map_append, ← HQ.out]; exact hown'
      have HQ' : Hid (q / 256 = n / 256 ^ (k + 1)) := by
        show _ = _
        rw [HQ.out, Int.ediv_ediv_of_nonneg (Int.le_of_lt (pow256_pos k)), Int.pow_succ]
      have hb' : Below w.heap.size w w1 := (hb.alloc hsz _).grown hgrow (by simp; omega) (fun j hj => (hown.lt j hj).1)
      clear hown hown' hgrow
      go_wp2
      go_roundw
      case rel => exact ⟨k + 1, by omega, by go_num, ⟨_, rfl, by omega, by omega, HQ'⟩, hown2, hb'⟩
      case measure => simp [intOf]; omega
    · obtain rfl : k = 8 := by omega
      go_wp2
      go_ret
      exact ⟨_, rfl, hown, hb⟩
end Go.Proofs.YtohlllohmoojiaaGreatDoor
/- eight and number, as contracts over abstract frames. -/
namespace Go.Proofs.YtohlllohmoojiaaGreatDoor
set_option maxRecDepth 100000
set_option maxHeartbeats 16000000
open Go Go.RowKit
theorem rep_owned {M : Nat → Nat → Prop} {w w' : World} {e : Nat} {v : Value} {k : Nat} {bs : List Int} (hM : ∀ k c, M k c → k < w.heap.size) (h : w'.ownsRow w.heap.size e 1 v k (bs.map (Value.int .u8))) : Rep M w' (.sl (byts bs)) v := by
  obtain ⟨hl, h⟩ := h
  have hk : bs.length = k := by simpa using hl
  rcases h with ⟨rfl, rfl⟩ | ⟨g, cap, cur, rfl, hg, hh, hn, hcm, hs, ht⟩
  · have : bs = [] := List.eq_nil_of_length_eq_zero hk
    subst this
    exact .nil
  · refine .sl (byts bs) g 0 k cap (bs.map (Value.int .u8)) (by rw [qK, hk]) (by rw [byts_flat, qK, List.length_map]) (fun j y hy => ?_) (fun j c y hc hy => ?_) (fun v hv => ?_) (fun _ _ hm => ?_) (Array.getElem?_eq_some_iff.1 hh).1 hn hcm
    · rw [Nat.zero_add, cell_of_row w' g j cur e (0, 0) hh]
      rw [← ht, List.getElem?_take] at hy
      split at hy
      · simpa using hy
      · cases hy
    · rw [byts_flat, byts, List.getElem?_map, Option.map_eq_some_iff] at hc
      obtain ⟨b, hb, rfl⟩ := hc
      rw [List.getElem?_map, hb] at hy
      obtain rfl := Option.some.inj hy
      exact .val _
    · obtain ⟨b, _, rfl⟩ := List.mem_map.1 hv
      rfl
    · have := hM g _ hm; omega
theorem eight_fn (n : Int) (h0 : 0 ≤ n) (h1 : n < 18446744073709551616) : Fn Tryz.prog 221 [.val (.int .u64 n)] (.p (.sl (byts (bytesOf 8 n)))) := by
  intro M w vs _ hM hl hr
  match vs, hl with
  | [v], _ =>
    have hv := rep_val (hr 0 _ v rfl rfl)
    subst hv
    refine (eight_any n w h0 h1).mono ?_
    rintro e w' ⟨v, rfl, hown, hb⟩
    exact ⟨v, rfl, rep_owned hM hown, hb⟩
end Go.Proofs.YtohlllohmoojiaaGreatDoor
/- Encode, the reference's, as a contract. -/
namespace Go.Proofs.YtohlllohmoojiaaGreatDoor
set_option maxRecDepth 100000
set_option maxHeartbeats 16000000
open Go Go.RowKit
set_option linter.unusedSimpArgs false
attribute [local irreducible] zY zZ Step zK Sub zS Fn
/-- an entry's bytes -/
def encL (k s y u v x : Int) : List Int := (k % 256 :: bytesOf 8 s) ++ (if k = 1 then bytesOf 8 y ++ bytesOf 8 u ++ bytesOf 8 v ++ bytesOf 8 x else [])
theorem encRef_fn (k s y u v x : Int) (h0 : 0 ≤ s) (h1 : s < 18446744073709551616) (h2 : 0 ≤ y) (h3 : y < 18446744073709551616) (h4 : 0 ≤ u) (h5 : u < 18446744073709551616) (h6 : 0 ≤ v) (h7 : v < 18446744073709551616) (h8 : 0 ≤ x) (h9 : x < 18446744073709551616) :
    Fn Tryz.prog 215 [entV k s y u v x] (.tup (if mayB k s y u v x then [.sl (byts (encL k s y u v x)), .val (.int .i64 0)] else [.sl [], .val (.int .i64 1)])) := by
  have hl : ∀ n, (bytesOf 8 n).length = 8 := bytesOf_length 8
  have hw : IntKind.u8.wrap k = k % 256 := by simp [IntKind.wrap, IntKind.signed, IntKind.bits]
  refine yS Tryz.func215 rfl Tryz.ntmps215 (Nat.le_of_ble_eq_true rfl) ?_
  repeat' (first | (refine zZ.is ?_; first | refine zZ.seq ?_ | (refine zZ.iq 0 ?_; refine zZ.rqb _ K_5 K_b ?_; (refine zY.m rfl rfl (yN rfl rfl rfl (by decide)) ?_); (refine zY.v rfl rfl (zV rfl rfl rfl (by decide)) ?_); (refine zY.v rfl rfl (zV rfl rfl rfl (by decide)) ?_); refine zY.nil ?_) | (refine zZ.iq 1 ?_; refine zZ.rqc _ K_j K_b ?_; (refine zY.v rfl rfl (yX rfl rfl rfl (by rfl) (by rfl) rfl (by decide)) ?_); (refine zY.v rfl rfl (by exact zO (mayRef_fn _ _ _ _ _ _ h2 h3) rfl rfl rfl (by decide)) ?_); (refine zY.v rfl rfl (zV rfl rfl rfl (by decide)) ?_); refine zY.nil ?_) | (refine zZ.iq 2 ?_; refine zZ.rqc _ K_s K_b ?_; (refine zY.v rfl rfl (zQ rfl rfl rfl (by decide)) ?_); (refine zY.v rfl rfl (r_notB rfl rfl (by rfl) rfl (by decide)) ?_); refine zY.nil ?_) | (refine zZ.iq 3 ?_; refine zZ.rqc _ K_j K_b ?_; (refine zY.v rfl rfl (zV rfl rfl rfl (by decide)) ?_); (refine zY.v rfl rfl (zV rfl rfl rfl (by decide)) ?_); refine zY.nil ?_) | (refine zZ.isR (id := 4) ?_; refine zZ.regionD [1, 2, 3] [1, 2, 13] (by repeat' first | exact zX.nil | apply zX.p rfl | apply zX.ptr rfl) (by repeat' first | exact zW.nil | apply zW.boxP rfl rfl | apply zW.skip) (zZ.draws ?_); all_goals (refine Draws.v rfl rfl (zA rfl rfl rfl (by decide)) ?_); all_goals (refine Draws.v rfl rfl (zD rfl rfl rfl (by rfl) rfl (by decide)) ?_); all_goals (refine Draws.v rfl rfl (by exact wG rfl rfl (by exact hw) rfl (by decide)) ?_); all_goals (refine Draws.m rfl rfl (w_buildB rfl (by decide) (by decide) (by decide) (by decide) (by rfl) (by rfl) (by rfl) (by rfl) rfl (by decide)) ?_); all_goals (refine Draws.v rfl rfl (zA rfl rfl rfl (by decide)) ?_); all_goals (refine Draws.v rfl rfl (zD rfl rfl rfl (by rfl) rfl (by decide)) ?_); all_goals (refine Draws.v rfl rfl (by exact zO (eight_fn _ h0 h1) rfl rfl rfl (by decide)) ?_); all_goals ((refine Draws.done (by kernel_rfl) (by kernel_rfl) (by kernel_rfl) ?_; refine zS.w rfl (by exact w_appB rfl rfl rfl rfl (by (simp only [List.length_append, List.length_cons, List.length_nil, *]; omega)) rfl rfl (by decide)) ?_)); all_goals (refine zS.v rfl rfl (xK rfl rfl rfl (by decide)) ?_); all_goals (refine zS.nil ?_)) | (refine zZ.iq 5 ?_; refine zZ.rqj _ K_t K_b ?_; (refine zY.v rfl rfl (zA rfl rfl rfl (by decide)) ?_); (refine zY.v rfl rfl (zD rfl rfl rfl (by rfl) rfl (by decide)) ?_); (refine zY.v rfl rfl (wM rfl rfl rfl (by rfl) rfl (by decide)) ?_); refine zY.nil ?_) | (refine zZ.iq 6 ?_; refine zZ.rqj _ K_t K_b ?_; (refine zY.v rfl rfl (vT rfl rfl rfl (by decide)) ?_); (refine zY.v rfl rfl (zA rfl rfl rfl (by decide)) ?_); (refine zY.v rfl rfl (zD rfl rfl rfl (by rfl) rfl (by decide)) ?_); (refine zY.v rfl rfl (by exact zO (eight_fn _ h2 h3) rfl rfl rfl (by decide)) ?_); (refine zY.w rfl (by exact w_appB rfl rfl rfl rfl (by (simp only [List.length_append, List.length_cons, List.length_nil, *]; omega)) rfl rfl (by decide)) ?_); (refine zY.v rfl rfl (xK rfl rfl rfl (by decide)) ?_); refine zY.nil ?_) | (refine zZ.iq 7 ?_; refine zZ.rqj _ K_t K_b ?_; (refine zY.v rfl rfl (vT rfl rfl rfl (by decide)) ?_); (refine zY.v rfl rfl (zA rfl rfl rfl (by decide)) ?_); (refine zY.v rfl rfl (zD rfl rfl rfl (by rfl) rfl (by decide)) ?_); (refine zY.v rfl rfl (by exact zO (eight_fn _ h4 h5) rfl rfl rfl (by decide)) ?_); (refine zY.w rfl (by exact w_appB rfl rfl rfl rfl (by (simp only [List.length_append, List.length_cons, List.length_nil, *]; omega)) rfl rfl (by decide)) ?_); (refine zY.v rfl rfl (xK rfl rfl rfl (by decide)) ?_); refine zY.nil ?_) | (refine zZ.iq 8 ?_; refine zZ.rqj _ K_t K_b ?_; (refine zY.v rfl rfl (vT rfl rfl rfl (by decide)) ?_); (refine zY.v rfl rfl (zA rfl rfl rfl (by decide)) ?_); (refine zY.v rfl rfl (zD rfl rfl rfl (by rfl) rfl (by decide)) ?_); (refine zY.v rfl rfl (by exact zO (eight_fn _ h6 h7) rfl rfl rfl (by decide)) ?_); (refine zY.w rfl (by exact w_appB rfl rfl rfl rfl (by (simp only [List.length_append, List.length_cons, List.length_nil, *]; omega)) rfl rfl (by decide)) ?_); (refine zY.v rfl rfl (xK rfl rfl rfl (by decide)) ?_); refine zY.nil ?_) | (refine zZ.iq 9 ?_; refine zZ.rqj _ K_t K_b ?_; (refine zY.v rfl rfl (vT rfl rfl rfl (by decide)) ?_); (refine zY.v rfl rfl (zA rfl rfl rfl (by decide)) ?_); (refine zY.v rfl rfl (zD rfl rfl rfl (by rfl) rfl (by decide)) ?_); (refine zY.v rfl rfl (by exact zO (eight_fn _ h8 h9) rfl rfl rfl (by decide)) ?_); (refine zY.w rfl (by exact w_appB rfl rfl rfl rfl (by (simp only [List.length_append, List.length_cons, List.length_nil, *]; omega)) rfl rfl (by decide)) ?_); (refine zY.v rfl rfl (xK rfl rfl rfl (by decide)) ?_); refine zY.nil ?_) | (refine zZ.isR (id := 10) ?_; refine zZ.zR [2, 3, 5] [1, 2, 13] (by repeat' first | exact zX.nil | apply zX.p rfl | apply zX.own rfl) (by repeat' first | exact zW.nil | apply zW.boxP rfl rfl | apply zW.y7 rfl | apply zW.skip) ?_; (refine zY.v rfl rfl (vT rfl rfl rfl (by decide)) ?_); (refine zY.v rfl rfl (xK rfl rfl rfl (by decide)) ?_); (refine zY.v rfl rfl (zV rfl rfl rfl (by decide)) ?_); refine zY.nil ?_) | refine zZ.cond rfl (fun h => ?_) (fun h => ?_) | refine zZ.skip ?_ | refine zZ.ret ?_) | refine zG.r ?_)
  · have hm : mayB k s y u v x = false := by simpa using h
    rw [if_neg (by simp [hm])]
    exact ⟨.inl rfl, _, sub_nil (d := 2) rfl, .tup (rs := [.tmp 2, .tmp 3]) rfl (by decide) (.cons (.tmp rfl) (.cons (.tmp rfl) .nil))⟩
  · have hm : mayB k s y u v x = true := by rename_i h'; simpa using h'
    have hk : k = 1 := by simpa using h
    have e : encL k s y u v x = [IntKind.u8.wrap k] ++ bytesOf 8 s ++ bytesOf 8 y ++ bytesOf 8 u ++ bytesOf 8 v ++ bytesOf 8 x := by rw [hw]; simp [encL, hk]
    rw [if_pos hm, e]
    exact ⟨.inl rfl, _, sub_freezeB (d := 2) (id := 13) rfl rfl, .tup (rs := [.tmp 2, .tmp 3]) rfl (by decide) (.cons (.tmp rfl) (.cons (.tmp rfl) .nil))⟩
  · have hm : mayB k s y u v x = true := by rename_i h'; simpa using h'
    have hk : ¬ k = 1 := by simpa using h
    have e : encL k s y u v x = [IntKind.u8.wrap k] ++ bytesOf 8 s := by simp [encL, hk, hw]
    rw [if_pos hm, e]
    exact ⟨.inl rfl, _, sub_freezeB (d := 2) (id := 13) rfl rfl, .tup (rs := [.tmp 2, .tmp 3]) rfl (by decide) (.cons (.tmp rfl) (.cons (.tmp rfl) .nil))⟩
end Go.Proofs.YtohlllohmoojiaaGreatDoor
/- Contracts of slices.Insert at the two places where it is used, and of fields. -/
namespace Go.Proofs.YtohlllohmoojiaaGreatDoor
set_option maxRecDepth 100000
set_option maxHeartbeats 16000000
open Go.RowKit
theorem Tryz.infoPtr : (Tryz.prog.info? 256).map (fun i => (i.zero, i.size, i.bytes)) = some (some (.pointer none), 1, 8) := by kernel_rfl
theorem Tryz.sizePtr : (Tryz.prog.info? 256).map (·.size) = some 1 := by kernel_rfl
/-- A row that is known whole is owned. -/
theorem ownsRow_of_heap {w : World} {base g n cap : Nat} {e : TypeId} {cur : List Value} {xs : List Value} (hg : w.heap[g]? = some (.cells cur.toArray e (0, 0))) (hb : base ≤ g)
    (hc : cur.length = cap) (hn : n ≤ cap) (hm : cap ≤ maxLen) (ht : cur.take n = xs) (hx : xs.length = n) : w.ownsRow base e 1 (.slice (some ⟨g, 0, none⟩) n cap) n xs :=
  ⟨by simpa using hx, .inr ⟨g, cap, cur.toArray, rfl, hb, hg, hn, hm, by simpa using hc, by simpa using ht⟩⟩
theorem cells_four {w : World} {b : Nat} {q0 q1 q2 q3 : Value} (h0 : w.cell? ⟨b, 0, none⟩ = some q0) (h1 : w.cell? ⟨b, 1, none⟩ = some q1) (h2 : w.cell? ⟨b, 2, none⟩ = some q2) (h3 : w.cell? ⟨b, 3, none⟩ = some q3) :
    ∀ (j : Nat) v, [q0, q1, q2, q3][j]? = some v → w.cell? ((⟨b, 0, none⟩ : Addr).add j) = some v := by
  intro j v hv
  match j, hv with
  | 0, hv => simp at hv; subst hv; exact h0
  | 1, hv => simp at hv; subst hv; exact h1
  | 2, hv => simp at hv; subst hv; exact h2
  | 3, hv => simp at hv; subst hv; exact h3
  | j + 4, hv => simp at hv
theorem insert_nil (g : Nat) (p : Value) (w : World) (hp : w.cell? ⟨g, 0, none⟩ = some p) (h1 : p.oneCell' = true) :
    Calls Tryz.prog 232 #[.slice none 0 0, .int .i64 0, .slice (some ⟨g, 0, none⟩) 1 1] w fun e w' =>
      ∃ v, e = .returned v ∧ w'.ownsRow w.heap.size 256 1 v 1 [p] ∧ Below w.heap.size w w' := by
  obtain ⟨i0, hi, hz0, hz1, hz2⟩ := info_parts Tryz.infoPtr
  go_enter Tryz.func232, Tryz.ntmps232
  go_wp2_with (at_builtin; refine wpList_append_own _ rfl _ _ 253 rfl w.heap.size 256 i0 (.pointer none) 1 8 Tryz.underlying253 hi hz0 hz1 hz2 rfl (by decide) _ _ _ rfl (World.ownsRow_nil _ _ _ _) ⟨g, 0, none⟩ 1 1 [p] rfl rfl ?c1 ?c2 ?c3 ?c4 ?c5 ?_)
  case c1 => exact cells_one hp
  case c2 => simpa using h1
  case c3 => simp [maxLen]
  case c4 => decide
  case c5 => exact Nat.le_refl _
  intro v' w1 hown' hgrow _
  go_wp2
  go_ret
  exact ⟨_, rfl, hown', (Below.refl _ _).grown hgrow (Nat.le_refl _) (by simp [Value.ownBlock])⟩
theorem insert_four (b g : Nat) (p q0 q1 q2 q3 : Value) (w : World) (hp : w.cell? ⟨g, 0, none⟩ = some p) (h1 : p.oneCell' = true)
   (hq0 : w.cell? ⟨b, 0, none⟩ = some q0) (hq1 : w.cell? ⟨b, 1, none⟩ = some q1) (hq2 : w.cell? ⟨b, 2, none⟩ = some q2) (hq3 : w.cell? ⟨b, 3, none⟩ = some q3)
   (hq : ∀ v ∈ [q0, q1, q2, q3], v.oneCell' = true) (hbw : b < w.heap.size) (hgw : g < w.heap.size) :
    Calls Tryz.prog 232 #[.slice (some ⟨b, 0, none⟩) 4 4, .int .i64 0, .slice (some ⟨g, 0, none⟩) 1 1] w fun e w' =>
      ∃ v, e = .returned v ∧ w'.ownsRow w.heap.size 256 1 v 5 [p, q0, q1, q2, q3] ∧ Below w.heap.size w w' := by
  obtain ⟨i0, hi, hz0, hz1, hz2⟩ := info_parts Tryz.infoPtr
  go_enter Tryz.func232, Tryz.ntmps232
  go_wp2_with (at_builtin; refine wpList_append_zeros rfl (.tmp 34) (.tmp 39) 253 3 rfl 256 i0 (.pointer none) (.pointer none) Tryz.underlying253 Tryz.underlying3 hi hz0 rfl hz1 ⟨b, 0, none⟩ 4 5 rfl rfl (by decide) (by simp [maxLen]) (by rw [hz2]; decide) (by rw [hz2]; decide) ?_)
  intro cap Z w1 HZ H1 hb1 hc1 hc2
  have hp1 : w1.cell? ⟨g, 0, none⟩ = some p := (hb1.cell (p := ⟨g, 0, none⟩) hgw).trans hp
  have hc1' : ¬ cap = 1 := by omega
  have hc1'' : ¬ cap = 0 := by omega
  have hl : Hid (Z.length = cap) := by show Z.length = cap; rw [HZ.out]; simp
  have D1 : 0 < [p].length → some (⟨w.heap.size, 0, none⟩ : Addr) = some ⟨w.heap.size, 0, none⟩ ∧ ∃ ad, some (⟨g, 0, none⟩ : Addr) = some ad ∧ ∀ (j : Nat) v, [p][j]? = some v → w1.cell? (ad.add j) = some v :=
    fun _ => ⟨rfl, _, rfl, cells_one hp1⟩
  have D2 : 0 + [p].length ≤ Z.length := by rw [hl.out]; simp; omega
  have D3 : ∀ v ∈ [p], v.oneCell' = true := by simpa using h1
  have H1' := Lib.hid D1
  have H2' := Lib.hid D2
  have H3' := Lib.hid D3
  clear D1 D2 D3
  go_wp2_with (with_reducible refine wpList_copy_splice rfl (.tmp 43) (.tmp 44) 253 253 rfl 256 Tryz.underlying253 Tryz.sizePtr (some ⟨w.heap.size, 0, none⟩) (some ⟨g, 0, none⟩) 5 cap 1 1 rfl rfl w.heap.size 0 Z 256 H1.out [p] rfl H1'.out H2'.out H3'.out w.heap.size w hb1 (Nat.le_refl _) ?_)
  intro w2 H2 hb2
  have hr0 : w2.cell? ⟨b, 0, none⟩ = some q0 := (hb2.cell (p := ⟨b, 0, none⟩) hbw).trans hq0
  have hr1 : w2.cell? ⟨b, 1, none⟩ = some q1 := (hb2.cell (p := ⟨b, 1, none⟩) hbw).trans hq1
  have hr2 : w2.cell? ⟨b, 2, none⟩ = some q2 := (hb2.cell (p := ⟨b, 2, none⟩) hbw).trans hq2
  have hr3 : w2.cell? ⟨b, 3, none⟩ = some q3 := (hb2.cell (p := ⟨b, 3, none⟩) hbw).trans hq3
  have hw1 : IntKind.i64.wrap 1 = 1 := by decide
  go_wp2
  go_still_tail 8, (by kernel_rfl)
  change wpList _ _ _ _ _ w2.drew
  refine wpList_copy_splice rfl (.tmp 50) (.tmp 53) 253 253 rfl 256 Tryz.underlying253 Tryz.sizePtr (some ⟨w.heap.size, 1, none⟩) (some ⟨b, 0, none⟩) 4 (cap - 1) 4 4 rfl rfl w.heap.size 1 (Go.splice Z 0 [p]) 256 H2.out [q0, q1, q2, q3] rfl ?e1 ?e2 hq w.heap.size w hb2.drew (Nat.le_refl _) ?_
  case e1 => exact fun _ => ⟨rfl, _, rfl, cells_four hr0 hr1 hr2 hr3⟩
  case e2 => have := hl.out; simp [Go.splice]; omega
  intro w3 H3 hb3
  go_wp2
  go_ret
  refine ⟨_, rfl, ownsRow_of_heap H3.out (Nat.le_refl _) ?_ hc1 hc2 ?_ rfl, hb3⟩
  · have := hl.out; simp [Go.splice]; omega
  · simp [Go.splice]
/-- What fields hands back, of an entry of kind k in block b. -/
def fieldsOf (b : Nat) (k : Int) : List Value :=
  if k = 1 then [.pointer (some ⟨b, 1, none⟩), .pointer (some ⟨b, 2, none⟩), .pointer (some ⟨b, 3, none⟩), .pointer (some ⟨b, 4, none⟩), .pointer (some ⟨b, 5, none⟩)]
  else if k = 2 ∨ k = 3 then [.pointer (some ⟨b, 1, none⟩)] else []
theorem fields_any (b : Nat) (k : Int) (w : World) (hp : w.cell? ⟨b, 0, none⟩ = some (.int .i64 k)) :
    Calls Tryz.prog 224 #[.pointer (some ⟨b, 0, none⟩)] w fun e w' =>
      ∃ v, e = .returned v ∧ w'.ownsRow w.heap.size 256 1 v (fieldsOf b k).length (fieldsOf b k) ∧ Below w.heap.size w w' := by
  by_cases h1 : k = 1
  · subst h1
    go_enter Tryz.func224, Tryz.ntmps224
    go_wp2_with fail
    go_still_tail 12, (by kernel_rfl)
    change wpList _ _ _ _ _ w.drew
    go_wp2_with fail
    refine (insert_four w.heap.size (w.heap.size + 1) (.pointer (some ⟨b, 1, none⟩)) (.pointer (some ⟨b, 2, none⟩)) (.pointer (some ⟨b, 3, none⟩)) (.pointer (some ⟨b, 4, none⟩)) (.pointer (some ⟨b, 5, none⟩)) _ (by go_simp) rfl (by go_simp) (by go_simp) (by go_simp) (by go_simp) (by simp [Value.oneCell']) (by simp <;> omega) (by simp <;> omega)).mono ?_
    rintro e w' ⟨v, rfl, hown, hb⟩
    go_wp2
    go_ret
    exact ⟨_, rfl, ownsRow_base hown (by simp <;> omega), ((((Below.refl _ _).alloc (Nat.le_refl _) _).alloc (by simp) _).drew).trans (hb.mono (by simp <;> omega))⟩
  by_cases h2 : k = 2
  · subst h2
    go_enter Tryz.func224, Tryz.ntmps224
    go_wp2_with fail
    refine (insert_nil w.heap.size (.pointer (some ⟨b, 1, none⟩)) _ (by simp) rfl).mono ?_
    rintro e w' ⟨v, rfl, hown, hb⟩
    go_wp2
    go_ret
    exact ⟨_, rfl, ownsRow_base hown (by simp <;> omega), ((Below.refl _ _).alloc (Nat.le_refl _) _).trans (hb.mono (by simp <;> omega))⟩
  by_cases h3 : k = 3
  · subst h3
    go_enter Tryz.func224, Tryz.ntmps224
    go_wp2_with fail
    refine (insert_nil w.heap.size (.pointer (some ⟨b, 1, none⟩)) _ (by simp) rfl).mono ?_
    rintro e w' ⟨v, rfl, hown, hb⟩
    go_wp2
    go_ret
    exact ⟨_, rfl, ownsRow_base hown (by simp <;> omega), ((Below.refl _ _).alloc (Nat.le_refl _) _).trans (hb.mono (by simp <;> omega))⟩
  have e2 : (k == 1) = false := by simpa using h1
  have e3 : (k == 2) = false := by simpa using h2
  have e4 : (k == 3) = false := by simpa using h3
  have hf : Hid (fieldsOf b k = []) := by show fieldsOf b k = []; simp [fieldsOf, h1, h2, h3]
  go_enter Tryz.func224, Tryz.ntmps224
  go_wp2_with fail
  go_ret
  exact ⟨_, rfl, by rw [hf.out]; exact World.ownsRow_nil _ _ _ _, Below.refl _ _⟩
end Go.Proofs.YtohlllohmoojiaaGreatDoor
/- A call of fields, whose argument is a pointer to an own variable. -/
namespace Go.Proofs.YtohlllohmoojiaaGreatDoor
set_option maxRecDepth 100000
set_option maxHeartbeats 16000000
open Go Go.RowKit
/-- what fields hands back: pointers into the variable -/
def yF (id : Nat) (k : Int) : List AV :=
  if k = 1 then [.ptr id 1, .ptr id 2, .ptr id 3, .ptr id 4, .ptr id 5] else if k = 2 ∨ k = 3 then [.ptr id 1] else []
theorem fieldsA_cells {M : Nat → Nat → Prop} {ρ : Nat → Value} {w : World} {id g : Nat} (k : Int) (hg : yA (ρ id) = some g) : yH M ρ w (yF id k) (fieldsOf g k) := by
  have one : ∀ j, yD M ρ w (.ptr id j) (.pointer (some ⟨g, j, none⟩)) := fun j => .ptr id j g hg
  unfold yF fieldsOf
  by_cases h1 : k = 1
  · rw [if_pos h1, if_pos h1]
    refine ⟨rfl, fun i c v hc hv => ?_, fun v hv => ?_⟩
    · match i with
      | 0 | 1 | 2 | 3 | 4 => simp at hc hv; subst hc; subst hv; exact one _
      | i + 5 => simp at hc
    · simp at hv
      rcases hv with rfl | rfl | rfl | rfl | rfl <;> rfl
  · rw [if_neg h1, if_neg h1]
    by_cases h2 : k = 2 ∨ k = 3
    · rw [if_pos h2, if_pos h2]
      refine ⟨rfl, fun i c v hc hv => ?_, fun v hv => ?_⟩
      · match i with
        | 0 => simp at hc hv; subst hc; subst hv; exact one _
        | i + 1 => simp at hc
      · simp at hv
        subst hv
        rfl
    · rw [if_neg h2, if_neg h2]
      exact ⟨rfl, fun i c v hc => by simp at hc, fun v hv => by simp at hv⟩
theorem fieldsA_len (id g : Nat) (k : Int) : (yF id k).length = (fieldsOf g k).length := by
  unfold yF fieldsOf
  split
  · rfl
  · split <;> rfl
theorem w_fields {n : Nat} {o : Oper} {S : AS} {d id ty : Nat} {x : Operand} {k : Int} {cs : List AV} {ts : Array TypeId} (ho : o.op = .call { callee := .value (.func 224), args := #[x], argTypes := ts }) (hx : S.get x = .ptr id 0)
    (hb : S.blk id = some (.box ty cs)) (hk : cs[0]? = some (.p (.val (.int .i64 k)))) (hd : o.dst = some d) (hn : d < n) :
    zK Tryz.prog n o S [id] (.own d) (some (.row 256 1 (yF id k).length (yF id k))) := by
  intro S2 hg hbl M w0 ρ a w K Q hs hK
  have hx2 : S2.get x = .ptr id 0 := (hg x (by rw [ho]; simp [Op.operands, Call.operands])).trans hx
  have hb2 : S2.blk id = some (.box ty cs) := (hbl id (by simp)).trans hb
  have h1 := hs.rep x
  rw [hx2] at h1
  obtain ⟨g, hgv, hv⟩ := vV h1
  obtain ⟨ys, hcs, hcell⟩ := (hs.blks id _ hb2).cells hgv
  have h0 : 0 < cs.length := (List.getElem?_eq_some_iff.1 hk).1
  have hy : ys[0]? = some (ys[0]'(by rw [hcs.len]; exact h0)) := List.getElem?_eq_getElem _
  have hkv := rep_val (rep_p (hcs.each 0 _ _ hk hy))
  have hc0 := (hcell 0 _ hy).1
  rw [hkv] at hc0
  have he : (execOp a.eval o).run Tryz.prog w = .ok (.enter 224 (#[x].map a.eval)) w := by
    unfold execOp
    rw [ho]
    simp [resolve, Deferred.ofValue, Act.eval, invoke, HasFn.h]
  unfold Oper.wp
  rw [he, Oper.upon_enter]
  have e : #[x].map a.eval = #[.pointer (some ⟨g, 0, none⟩)] := by simp [hv]
  rw [e]
  refine (fields_any g k w hc0).mono ?_
  rintro en w' ⟨v, rfl, hown, hbw⟩
  show K (a.put o.dst v) w'
  rw [hd] at hK ⊢
  have hbk : ∀ k', yA v = some k' → w.heap.size ≤ k' := fun k' hk' => (hown.lt k' (by rw [← own_slice hown]; exact hk')).1
  have h2 := hs.change d (.row 256 1 (yF id k).length (yF id k)) v none (hs.free d hn) ⟨hbw.os, hbw.tape, hbw.output, hbw.size, fun k' hk' _ => hbw.block k' hk'⟩ (fun k' h => by cases h) (fun k' hk' => .inl (hbk k' hk'))
    ⟨fieldsOf g k, by rw [fieldsA_len id g k]; exact ownsRow_base hown (Nat.zero_le _), fieldsA_cells k hgv⟩
  refine hK (upd ρ d v) _ w' (h2.put hn ?_)
  have := yD.own (M := Mut M (S2.create d (.row 256 1 (yF id k).length (yF id k))) (upd ρ d v)) (ρ := upd ρ d v) (w := w') d
  simpa [upd] using this
end Go.Proofs.YtohlllohmoojiaaGreatDoor
