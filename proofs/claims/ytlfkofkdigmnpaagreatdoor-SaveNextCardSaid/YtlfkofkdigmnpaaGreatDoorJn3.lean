/- For every input SaveNext returns true, and leaves its argument as it was; tied: Rows.SaveNextCardSaid. Conditions: none beyond the given statement's own. (Part 3 of 8.) -/
import Derived.Test.YtlfkofkdigmnpaaGreatDoorJn2
import Derived.Recover
import Derived.Laws.BitsAllLaws
/- Instances that hang on functions' types. Written by inst.py. -/
namespace Go.Proofs.YtlfkofkdigmnpaaGreatDoor
set_option maxRecDepth 100000
set_option maxHeartbeats 16000000
open Go Go.RowKit
set_option maxRecDepth 100000
instance ty1 : TyA Tryz.prog 1 false 1 := ⟨fun _ => by kernel_rfl, fun _ => by kernel_rfl⟩
instance ze1 : ZeroA Tryz.prog 1 (Value.nilFunc) := ⟨fun _ => by kernel_rfl⟩
instance in1 : InfoA Tryz.prog 1 (Value.nilFunc) 1 8 := ⟨by kernel_rfl⟩
instance ty28 : TyA Tryz.prog 28 false 1 := ⟨fun _ => by kernel_rfl, fun _ => by kernel_rfl⟩
instance ze28 : ZeroA Tryz.prog 28 (Value.nilFunc) := ⟨fun _ => by kernel_rfl⟩
instance in28 : InfoA Tryz.prog 28 (Value.nilFunc) 1 8 := ⟨by kernel_rfl⟩
instance ty29 : TyA Tryz.prog 29 false 1 := ⟨fun _ => by kernel_rfl, fun _ => by kernel_rfl⟩
instance ze29 : ZeroA Tryz.prog 29 (Value.nilFunc) := ⟨fun _ => by kernel_rfl⟩
instance in29 : InfoA Tryz.prog 29 (Value.nilFunc) 1 8 := ⟨by kernel_rfl⟩
instance ty30 : TyA Tryz.prog 30 false 1 := ⟨fun _ => by kernel_rfl, fun _ => by kernel_rfl⟩
instance ze30 : ZeroA Tryz.prog 30 (Value.nilFunc) := ⟨fun _ => by kernel_rfl⟩
instance in30 : InfoA Tryz.prog 30 (Value.nilFunc) 1 8 := ⟨by kernel_rfl⟩
instance ty40 : TyA Tryz.prog 40 false 1 := ⟨fun _ => by kernel_rfl, fun _ => by kernel_rfl⟩
instance ze40 : ZeroA Tryz.prog 40 (Value.nilFunc) := ⟨fun _ => by kernel_rfl⟩
instance in40 : InfoA Tryz.prog 40 (Value.nilFunc) 1 8 := ⟨by kernel_rfl⟩
instance ty41 : TyA Tryz.prog 41 false 1 := ⟨fun _ => by kernel_rfl, fun _ => by kernel_rfl⟩
instance ze41 : ZeroA Tryz.prog 41 (Value.nilFunc) := ⟨fun _ => by kernel_rfl⟩
instance in41 : InfoA Tryz.prog 41 (Value.nilFunc) 1 8 := ⟨by kernel_rfl⟩
instance ty42 : TyA Tryz.prog 42 false 1 := ⟨fun _ => by kernel_rfl, fun _ => by kernel_rfl⟩
instance ze42 : ZeroA Tryz.prog 42 (Value.nilFunc) := ⟨fun _ => by kernel_rfl⟩
instance in42 : InfoA Tryz.prog 42 (Value.nilFunc) 1 8 := ⟨by kernel_rfl⟩
instance ty43 : TyA Tryz.prog 43 false 1 := ⟨fun _ => by kernel_rfl, fun _ => by kernel_rfl⟩
instance ze43 : ZeroA Tryz.prog 43 (Value.nilFunc) := ⟨fun _ => by kernel_rfl⟩
instance in43 : InfoA Tryz.prog 43 (Value.nilFunc) 1 8 := ⟨by kernel_rfl⟩
instance ty44 : TyA Tryz.prog 44 false 1 := ⟨fun _ => by kernel_rfl, fun _ => by kernel_rfl⟩
instance ze44 : ZeroA Tryz.prog 44 (Value.nilFunc) := ⟨fun _ => by kernel_rfl⟩
instance in44 : InfoA Tryz.prog 44 (Value.nilFunc) 1 8 := ⟨by kernel_rfl⟩
instance ty53 : TyA Tryz.prog 53 false 1 := ⟨fun _ => by kernel_rfl, fun _ => by kernel_rfl⟩
instance ze53 : ZeroA Tryz.prog 53 (Value.nilFunc) := ⟨fun _ => by kernel_rfl⟩
instance in53 : InfoA Tryz.prog 53 (Value.nilFunc) 1 8 := ⟨by kernel_rfl⟩
instance ty55 : TyA Tryz.prog 55 false 1 := ⟨fun _ => by kernel_rfl, fun _ => by kernel_rfl⟩
instance ze55 : ZeroA Tryz.prog 55 (Value.nilFunc) := ⟨fun _ => by kernel_rfl⟩
instance in55 : InfoA Tryz.prog 55 (Value.nilFunc) 1 8 := ⟨by kernel_rfl⟩
instance ty60 : TyA Tryz.prog 60 false 1 := ⟨fun _ => by kernel_rfl, fun _ => by kernel_rfl⟩
instance ze60 : ZeroA Tryz.prog 60 (Value.nilFunc) := ⟨fun _ => by kernel_rfl⟩
instance in60 : InfoA Tryz.prog 60 (Value.nilFunc) 1 8 := ⟨by kernel_rfl⟩
instance ty61 : TyA Tryz.prog 61 false 1 := ⟨fun _ => by kernel_rfl, fun _ => by kernel_rfl⟩
instance ze61 : ZeroA Tryz.prog 61 (Value.nilFunc) := ⟨fun _ => by kernel_rfl⟩
instance in61 : InfoA Tryz.prog 61 (Value.nilFunc) 1 8 := ⟨by kernel_rfl⟩
instance ty62 : TyA Tryz.prog 62 false 1 := ⟨fun _ => by kernel_rfl, fun _ => by kernel_rfl⟩
instance ze62 : ZeroA Tryz.prog 62 (Value.nilFunc) := ⟨fun _ => by kernel_rfl⟩
instance in62 : InfoA Tryz.prog 62 (Value.nilFunc) 1 8 := ⟨by kernel_rfl⟩
instance ty64 : TyA Tryz.prog 64 false 1 := ⟨fun _ => by kernel_rfl, fun _ => by kernel_rfl⟩
instance ze64 : ZeroA Tryz.prog 64 (Value.nilFunc) := ⟨fun _ => by kernel_rfl⟩
instance in64 : InfoA Tryz.prog 64 (Value.nilFunc) 1 8 := ⟨by kernel_rfl⟩
instance ty67 : TyA Tryz.prog 67 false 1 := ⟨fun _ => by kernel_rfl, fun _ => by kernel_rfl⟩
instance ze67 : ZeroA Tryz.prog 67 (Value.nilFunc) := ⟨fun _ => by kernel_rfl⟩
instance in67 : InfoA Tryz.prog 67 (Value.nilFunc) 1 8 := ⟨by kernel_rfl⟩
instance ty68 : TyA Tryz.prog 68 false 1 := ⟨fun _ => by kernel_rfl, fun _ => by kernel_rfl⟩
instance ze68 : ZeroA Tryz.prog 68 (Value.nilFunc) := ⟨fun _ => by kernel_rfl⟩
instance in68 : InfoA Tryz.prog 68 (Value.nilFunc) 1 8 := ⟨by kernel_rfl⟩
instance ty69 : TyA Tryz.prog 69 false 1 := ⟨fun _ => by kernel_rfl, fun _ => by kernel_rfl⟩
instance ze69 : ZeroA Tryz.prog 69 (Value.nilFunc) := ⟨fun _ => by kernel_rfl⟩
instance in69 : InfoA Tryz.prog 69 (Value.nilFunc) 1 8 := ⟨by kernel_rfl⟩
instance ty70 : TyA Tryz.prog 70 false 1 := ⟨fun _ => by kernel_rfl, fun _ => by kernel_rfl⟩
instance ze70 : ZeroA Tryz.prog 70 (Value.nilFunc) := ⟨fun _ => by kernel_rfl⟩
instance in70 : InfoA Tryz.prog 70 (Value.nilFunc) 1 8 := ⟨by kernel_rfl⟩
instance ty73 : TyA Tryz.prog 73 false 1 := ⟨fun _ => by kernel_rfl, fun _ => by kernel_rfl⟩
instance ze73 : ZeroA Tryz.prog 73 (Value.nilFunc) := ⟨fun _ => by kernel_rfl⟩
instance in73 : InfoA Tryz.prog 73 (Value.nilFunc) 1 8 := ⟨by kernel_rfl⟩
instance ty75 : TyA Tryz.prog 75 false 1 := ⟨fun _ => by kernel_rfl, fun _ => by kernel_rfl⟩
instance ze75 : ZeroA Tryz.prog 75 (Value.nilFunc) := ⟨fun _ => by kernel_rfl⟩
instance in75 : InfoA Tryz.prog 75 (Value.nilFunc) 1 8 := ⟨by kernel_rfl⟩
instance ty76 : TyA Tryz.prog 76 false 1 := ⟨fun _ => by kernel_rfl, fun _ => by kernel_rfl⟩
instance ze76 : ZeroA Tryz.prog 76 (Value.nilFunc) := ⟨fun _ => by kernel_rfl⟩
instance in76 : InfoA Tryz.prog 76 (Value.nilFunc) 1 8 := ⟨by kernel_rfl⟩
instance ty77 : TyA Tryz.prog 77 false 1 := ⟨fun _ => by kernel_rfl, fun _ => by kernel_rfl⟩
instance ze77 : ZeroA Tryz.prog 77 (Value.nilFunc) := ⟨fun _ => by kernel_rfl⟩
instance in77 : InfoA Tryz.prog 77 (Value.nilFunc) 1 8 := ⟨by kernel_rfl⟩
instance ty78 : TyA Tryz.prog 78 false 1 := ⟨fun _ => by kernel_rfl, fun _ => by kernel_rfl⟩
instance ze78 : ZeroA Tryz.prog 78 (Value.nilFunc) := ⟨fun _ => by kernel_rfl⟩
instance in78 : InfoA Tryz.prog 78 (Value.nilFunc) 1 8 := ⟨by kernel_rfl⟩
instance ty80 : TyA Tryz.prog 80 false 1 := ⟨fun _ => by kernel_rfl, fun _ => by kernel_rfl⟩
instance ze80 : ZeroA Tryz.prog 80 (Value.nilFunc) := ⟨fun _ => by kernel_rfl⟩
instance in80 : InfoA Tryz.prog 80 (Value.nilFunc) 1 8 := ⟨by kernel_rfl⟩
instance ty82 : TyA Tryz.prog 82 false 1 := ⟨fun _ => by kernel_rfl, fun _ => by kernel_rfl⟩
instance ze82 : ZeroA Tryz.prog 82 (Value.nilFunc) := ⟨fun _ => by kernel_rfl⟩
instance in82 : InfoA Tryz.prog 82 (Value.nilFunc) 1 8 := ⟨by kernel_rfl⟩
instance ty87 : TyA Tryz.prog 87 false 1 := ⟨fun _ => by kernel_rfl, fun _ => by kernel_rfl⟩
instance ze87 : ZeroA Tryz.prog 87 (Value.nilFunc) := ⟨fun _ => by kernel_rfl⟩
instance in87 : InfoA Tryz.prog 87 (Value.nilFunc) 1 8 := ⟨by kernel_rfl⟩
instance ty89 : TyA Tryz.prog 89 false 1 := ⟨fun _ => by kernel_rfl, fun _ => by kernel_rfl⟩
instance ze89 : ZeroA Tryz.prog 89 (Value.nilFunc) := ⟨fun _ => by kernel_rfl⟩
instance in89 : InfoA Tryz.prog 89 (Value.nilFunc) 1 8 := ⟨by kernel_rfl⟩
instance ty93 : TyA Tryz.prog 93 false 1 := ⟨fun _ => by kernel_rfl, fun _ => by kernel_rfl⟩
instance ze93 : ZeroA Tryz.prog 93 (Value.nilFunc) := ⟨fun _ => by kernel_rfl⟩
instance in93 : InfoA Tryz.prog 93 (Value.nilFunc) 1 8 := ⟨by kernel_rfl⟩
instance ty94 : TyA Tryz.prog 94 false 1 := ⟨fun _ => by kernel_rfl, fun _ => by kernel_rfl⟩
instance ze94 : ZeroA Tryz.prog 94 (Value.nilFunc) := ⟨fun _ => by kernel_rfl⟩
instance in94 : InfoA Tryz.prog 94 (Value.nilFunc) 1 8 := ⟨by kernel_rfl⟩
instance ty97 : TyA Tryz.prog 97 false 1 := ⟨fun _ => by kernel_rfl, fun _ => by kernel_rfl⟩
instance ze97 : ZeroA Tryz.prog 97 (Value.nilFunc) := ⟨fun _ => by kernel_rfl⟩
instance in97 : InfoA Tryz.prog 97 (Value.nilFunc) 1 8 := ⟨by kernel_rfl⟩
instance ty98 : TyA Tryz.prog 98 false 1 := ⟨fun _ => by kernel_rfl, fun _ => by kernel_rfl⟩
instance ze98 : ZeroA Tryz.prog 98 (Value.nilFunc) := ⟨fun _ => by kernel_rfl⟩
instance in98 : InfoA Tryz.prog 98 (Value.nilFunc) 1 8 := ⟨by kernel_rfl⟩
instance ty99 : TyA Tryz.prog 99 false 1 := ⟨fun _ => by kernel_rfl, fun _ => by kernel_rfl⟩
instance ze99 : ZeroA Tryz.prog 99 (Value.nilFunc) := ⟨fun _ => by kernel_rfl⟩
instance in99 : InfoA Tryz.prog 99 (Value.nilFunc) 1 8 := ⟨by kernel_rfl⟩
instance ty100 : TyA Tryz.prog 100 false 1 := ⟨fun _ => by kernel_rfl, fun _ => by kernel_rfl⟩
instance ze100 : ZeroA Tryz.prog 100 (Value.nilFunc) := ⟨fun _ => by kernel_rfl⟩
instance in100 : InfoA Tryz.prog 100 (Value.nilFunc) 1 8 := ⟨by kernel_rfl⟩
instance ty101 : TyA Tryz.prog 101 false 1 := ⟨fun _ => by kernel_rfl, fun _ => by kernel_rfl⟩
instance ze101 : ZeroA Tryz.prog 101 (Value.nilFunc) := ⟨fun _ => by kernel_rfl⟩
instance in101 : InfoA Tryz.prog 101 (Value.nilFunc) 1 8 := ⟨by kernel_rfl⟩
instance ty102 : TyA Tryz.prog 102 false 1 := ⟨fun _ => by kernel_rfl, fun _ => by kernel_rfl⟩
instance ze102 : ZeroA Tryz.prog 102 (Value.nilFunc) := ⟨fun _ => by kernel_rfl⟩
instance in102 : InfoA Tryz.prog 102 (Value.nilFunc) 1 8 := ⟨by kernel_rfl⟩
instance ty103 : TyA Tryz.prog 103 false 1 := ⟨fun _ => by kernel_rfl, fun _ => by kernel_rfl⟩
instance ze103 : ZeroA Tryz.prog 103 (Value.nilFunc) := ⟨fun _ => by kernel_rfl⟩
instance in103 : InfoA Tryz.prog 103 (Value.nilFunc) 1 8 := ⟨by kernel_rfl⟩
instance ty104 : TyA Tryz.prog 104 false 1 := ⟨fun _ => by kernel_rfl, fun _ => by kernel_rfl⟩
instance ze104 : ZeroA Tryz.prog 104 (Value.nilFunc) := ⟨fun _ => by kernel_rfl⟩
instance in104 : InfoA Tryz.prog 104 (Value.nilFunc) 1 8 := ⟨by kernel_rfl⟩
instance ty105 : TyA Tryz.prog 105 false 1 := ⟨fun _ => by kernel_rfl, fun _ => by kernel_rfl⟩
instance ze105 : ZeroA Tryz.prog 105 (Value.nilFunc) := ⟨fun _ => by kernel_rfl⟩
instance in105 : InfoA Tryz.prog 105 (Value.nilFunc) 1 8 := ⟨by kernel_rfl⟩
instance ty106 : TyA Tryz.prog 106 false 1 := ⟨fun _ => by kernel_rfl, fun _ => by kernel_rfl⟩
instance ze106 : ZeroA Tryz.prog 106 (Value.nilFunc) := ⟨fun _ => by kernel_rfl⟩
instance in106 : InfoA Tryz.prog 106 (Value.nilFunc) 1 8 := ⟨by kernel_rfl⟩
instance ty107 : TyA Tryz.prog 107 false 1 := ⟨fun _ => by kernel_rfl, fun _ => by kernel_rfl⟩
instance ze107 : ZeroA Tryz.prog 107 (Value.nilFunc) := ⟨fun _ => by kernel_rfl⟩
instance in107 : InfoA Tryz.prog 107 (Value.nilFunc) 1 8 := ⟨by kernel_rfl⟩
instance ty108 : TyA Tryz.prog 108 false 1 := ⟨fun _ => by kernel_rfl, fun _ => by kernel_rfl⟩
instance ze108 : ZeroA Tryz.prog 108 (Value.nilFunc) := ⟨fun _ => by kernel_rfl⟩
instance in108 : InfoA Tryz.prog 108 (Value.nilFunc) 1 8 := ⟨by kernel_rfl⟩
instance ty109 : TyA Tryz.prog 109 false 1 := ⟨fun _ => by kernel_rfl, fun _ => by kernel_rfl⟩
instance ze109 : ZeroA Tryz.prog 109 (Value.nilFunc) := ⟨fun _ => by kernel_rfl⟩
instance in109 : InfoA Tryz.prog 109 (Value.nilFunc) 1 8 := ⟨by kernel_rfl⟩
instance ty110 : TyA Tryz.prog 110 false 1 := ⟨fun _ => by kernel_rfl, fun _ => by kernel_rfl⟩
instance ze110 : ZeroA Tryz.prog 110 (Value.nilFunc) := ⟨fun _ => by kernel_rfl⟩
instance in110 : InfoA Tryz.prog 110 (Value.nilFunc) 1 8 := ⟨by kernel_rfl⟩
instance ty111 : TyA Tryz.prog 111 false 1 := ⟨fun _ => by kernel_rfl, fun _ => by kernel_rfl⟩
instance ze111 : ZeroA Tryz.prog 111 (Value.nilFunc) := ⟨fun _ => by kernel_rfl⟩
instance in111 : InfoA Tryz.prog 111 (Value.nilFunc) 1 8 := ⟨by kernel_rfl⟩
instance ty112 : TyA Tryz.prog 112 false 1 := ⟨fun _ => by kernel_rfl, fun _ => by kernel_rfl⟩
instance ze112 : ZeroA Tryz.prog 112 (Value.nilFunc) := ⟨fun _ => by kernel_rfl⟩
instance in112 : InfoA Tryz.prog 112 (Value.nilFunc) 1 8 := ⟨by kernel_rfl⟩
instance ty114 : TyA Tryz.prog 114 false 1 := ⟨fun _ => by kernel_rfl, fun _ => by kernel_rfl⟩
instance ze114 : ZeroA Tryz.prog 114 (Value.nilFunc) := ⟨fun _ => by kernel_rfl⟩
instance in114 : InfoA Tryz.prog 114 (Value.nilFunc) 1 8 := ⟨by kernel_rfl⟩
instance ty115 : TyA Tryz.prog 115 false 1 := ⟨fun _ => by kernel_rfl, fun _ => by kernel_rfl⟩
instance ze115 : ZeroA Tryz.prog 115 (Value.nilFunc) := ⟨fun _ => by kernel_rfl⟩
instance in115 : InfoA Tryz.prog 115 (Value.nilFunc) 1 8 := ⟨by kernel_rfl⟩
instance ty117 : TyA Tryz.prog 117 false 1 := ⟨fun _ => by kernel_rfl, fun _ => by kernel_rfl⟩
instance ze117 : ZeroA Tryz.prog 117 (Value.nilFunc) := ⟨fun _ => by kernel_rfl⟩
instance in117 : InfoA Tryz.prog 117 (Value.nilFunc) 1 8 := ⟨by kernel_rfl⟩
instance ty119 : TyA Tryz.prog 119 false 1 := ⟨fun _ => by kernel_rfl, fun _ => by kernel_rfl⟩
instance ze119 : ZeroA Tryz.prog 119 (Value.nilFunc) := ⟨fun _ => by kernel_rfl⟩
instance in119 : InfoA Tryz.prog 119 (Value.nilFunc) 1 8 := ⟨by kernel_rfl⟩
instance ty121 : TyA Tryz.prog 121 false 1 := ⟨fun _ => by kernel_rfl, fun _ => by kernel_rfl⟩
instance ze121 : ZeroA Tryz.prog 121 (Value.nilFunc) := ⟨fun _ => by kernel_rfl⟩
instance in121 : InfoA Tryz.prog 121 (Value.nilFunc) 1 8 := ⟨by kernel_rfl⟩
instance ty122 : TyA Tryz.prog 122 false 1 := ⟨fun _ => by kernel_rfl, fun _ => by kernel_rfl⟩
instance ze122 : ZeroA Tryz.prog 122 (Value.nilFunc) := ⟨fun _ => by kernel_rfl⟩
instance in122 : InfoA Tryz.prog 122 (Value.nilFunc) 1 8 := ⟨by kernel_rfl⟩
instance ty123 : TyA Tryz.prog 123 false 1 := ⟨fun _ => by kernel_rfl, fun _ => by kernel_rfl⟩
instance ze123 : ZeroA Tryz.prog 123 (Value.nilFunc) := ⟨fun _ => by kernel_rfl⟩
instance in123 : InfoA Tryz.prog 123 (Value.nilFunc) 1 8 := ⟨by kernel_rfl⟩
instance ty124 : TyA Tryz.prog 124 false 1 := ⟨fun _ => by kernel_rfl, fun _ => by kernel_rfl⟩
instance ze124 : ZeroA Tryz.prog 124 (Value.nilFunc) := ⟨fun _ => by kernel_rfl⟩
instance in124 : InfoA Tryz.prog 124 (Value.nilFunc) 1 8 := ⟨by kernel_rfl⟩
instance ty126 : TyA Tryz.prog 126 false 1 := ⟨fun _ => by kernel_rfl, fun _ => by kernel_rfl⟩
instance ze126 : ZeroA Tryz.prog 126 (Value.nilFunc) := ⟨fun _ => by kernel_rfl⟩
instance in126 : InfoA Tryz.prog 126 (Value.nilFunc) 1 8 := ⟨by kernel_rfl⟩
instance ty127 : TyA Tryz.prog 127 false 1 := ⟨fun _ => by kernel_rfl, fun _ => by kernel_rfl⟩
instance ze127 : ZeroA Tryz.prog 127 (Value.nilFunc) := ⟨fun _ => by kernel_rfl⟩
instance in127 : InfoA Tryz.prog 127 (Value.nilFunc) 1 8 := ⟨by kernel_rfl⟩
instance ty129 : TyA Tryz.prog 129 false 1 := ⟨fun _ => by kernel_rfl, fun _ => by kernel_rfl⟩
instance ze129 : ZeroA Tryz.prog 129 (Value.nilFunc) := ⟨fun _ => by kernel_rfl⟩
instance in129 : InfoA Tryz.prog 129 (Value.nilFunc) 1 8 := ⟨by kernel_rfl⟩
instance ty130 : TyA Tryz.prog 130 false 1 := ⟨fun _ => by kernel_rfl, fun _ => by kernel_rfl⟩
instance ze130 : ZeroA Tryz.prog 130 (Value.nilFunc) := ⟨fun _ => by kernel_rfl⟩
instance in130 : InfoA Tryz.prog 130 (Value.nilFunc) 1 8 := ⟨by kernel_rfl⟩
instance ty131 : TyA Tryz.prog 131 false 1 := ⟨fun _ => by kernel_rfl, fun _ => by kernel_rfl⟩
instance ze131 : ZeroA Tryz.prog 131 (Value.nilFunc) := ⟨fun _ => by kernel_rfl⟩
instance in131 : InfoA Tryz.prog 131 (Value.nilFunc) 1 8 := ⟨by kernel_rfl⟩
instance ty133 : TyA Tryz.prog 133 false 1 := ⟨fun _ => by kernel_rfl, fun _ => by kernel_rfl⟩
instance ze133 : ZeroA Tryz.prog 133 (Value.nilFunc) := ⟨fun _ => by kernel_rfl⟩
instance in133 : InfoA Tryz.prog 133 (Value.nilFunc) 1 8 := ⟨by kernel_rfl⟩
instance ty134 : TyA Tryz.prog 134 false 1 := ⟨fun _ => by kernel_rfl, fun _ => by kernel_rfl⟩
instance ze134 : ZeroA Tryz.prog 134 (Value.nilFunc) := ⟨fun _ => by kernel_rfl⟩
instance in134 : InfoA Tryz.prog 134 (Value.nilFunc) 1 8 := ⟨by kernel_rfl⟩
instance bu135 : BuildA Tryz.prog 135 [(0, 1), (1, 1)] := ⟨by kernel_rfl, by kernel_rfl⟩
instance bu136 : BuildA Tryz.prog 136 [(0, 1), (1, 1)] := ⟨by kernel_rfl, by kernel_rfl⟩
instance ty138 : TyA Tryz.prog 138 false 1 := ⟨fun _ => by kernel_rfl, fun _ => by kernel_rfl⟩
instance ze138 : ZeroA Tryz.prog 138 (Value.nilFunc) := ⟨fun _ => by kernel_rfl⟩
instance in138 : InfoA Tryz.prog 138 (Value.nilFunc) 1 8 := ⟨by kernel_rfl⟩
instance ty140 : TyA Tryz.prog 140 false 1 := ⟨fun _ => by kernel_rfl, fun _ => by kernel_rfl⟩
instance ze140 : ZeroA Tryz.prog 140 (Value.nilFunc) := ⟨fun _ => by kernel_rfl⟩
instance in140 : InfoA Tryz.prog 140 (Value.nilFunc) 1 8 := ⟨by kernel_rfl⟩
instance ty141 : TyA Tryz.prog 141 false 1 := ⟨fun _ => by kernel_rfl, fun _ => by kernel_rfl⟩
instance ze141 : ZeroA Tryz.prog 141 (Value.nilFunc) := ⟨fun _ => by kernel_rfl⟩
instance in141 : InfoA Tryz.prog 141 (Value.nilFunc) 1 8 := ⟨by kernel_rfl⟩
instance ty142 : TyA Tryz.prog 142 false 1 := ⟨fun _ => by kernel_rfl, fun _ => by kernel_rfl⟩
instance ze142 : ZeroA Tryz.prog 142 (Value.nilFunc) := ⟨fun _ => by kernel_rfl⟩
instance in142 : InfoA Tryz.prog 142 (Value.nilFunc) 1 8 := ⟨by kernel_rfl⟩
instance ty143 : TyA Tryz.prog 143 false 1 := ⟨fun _ => by kernel_rfl, fun _ => by kernel_rfl⟩
instance ze143 : ZeroA Tryz.prog 143 (Value.nilFunc) := ⟨fun _ => by kernel_rfl⟩
instance in143 : InfoA Tryz.prog 143 (Value.nilFunc) 1 8 := ⟨by kernel_rfl⟩
instance ty144 : TyA Tryz.prog 144 false 1 := ⟨fun _ => by kernel_rfl, fun _ => by kernel_rfl⟩
instance ze144 : ZeroA Tryz.prog 144 (Value.nilFunc) := ⟨fun _ => by kernel_rfl⟩
instance in144 : InfoA Tryz.prog 144 (Value.nilFunc) 1 8 := ⟨by kernel_rfl⟩
instance ty145 : TyA Tryz.prog 145 false 1 := ⟨fun _ => by kernel_rfl, fun _ => by kernel_rfl⟩
instance ze145 : ZeroA Tryz.prog 145 (Value.nilFunc) := ⟨fun _ => by kernel_rfl⟩
instance in145 : InfoA Tryz.prog 145 (Value.nilFunc) 1 8 := ⟨by kernel_rfl⟩
instance ty146 : TyA Tryz.prog 146 false 1 := ⟨fun _ => by kernel_rfl, fun _ => by kernel_rfl⟩
instance ze146 : ZeroA Tryz.prog 146 (Value.nilFunc) := ⟨fun _ => by kernel_rfl⟩
instance in146 : InfoA Tryz.prog 146 (Value.nilFunc) 1 8 := ⟨by kernel_rfl⟩
instance ty147 : TyA Tryz.prog 147 false 1 := ⟨fun _ => by kernel_rfl, fun _ => by kernel_rfl⟩
instance ze147 : ZeroA Tryz.prog 147 (Value.nilFunc) := ⟨fun _ => by kernel_rfl⟩
instance in147 : InfoA Tryz.prog 147 (Value.nilFunc) 1 8 := ⟨by kernel_rfl⟩
instance ty148 : TyA Tryz.prog 148 false 1 := ⟨fun _ => by kernel_rfl, fun _ => by kernel_rfl⟩
instance ze148 : ZeroA Tryz.prog 148 (Value.nilFunc) := ⟨fun _ => by kernel_rfl⟩
instance in148 : InfoA Tryz.prog 148 (Value.nilFunc) 1 8 := ⟨by kernel_rfl⟩
instance ty150 : TyA Tryz.prog 150 false 1 := ⟨fun _ => by kernel_rfl, fun _ => by kernel_rfl⟩
instance ze150 : ZeroA Tryz.prog 150 (Value.nilFunc) := ⟨fun _ => by kernel_rfl⟩
instance in150 : InfoA Tryz.prog 150 (Value.nilFunc) 1 8 := ⟨by kernel_rfl⟩
instance ty153 : TyA Tryz.prog 153 false 1 := ⟨fun _ => by kernel_rfl, fun _ => by kernel_rfl⟩
instance ze153 : ZeroA Tryz.prog 153 (Value.nilFunc) := ⟨fun _ => by kernel_rfl⟩
instance in153 : InfoA Tryz.prog 153 (Value.nilFunc) 1 8 := ⟨by kernel_rfl⟩
instance ty154 : TyA Tryz.prog 154 false 1 := ⟨fun _ => by kernel_rfl, fun _ => by kernel_rfl⟩
instance ze154 : ZeroA Tryz.prog 154 (Value.nilFunc) := ⟨fun _ => by kernel_rfl⟩
instance in154 : InfoA Tryz.prog 154 (Value.nilFunc) 1 8 := ⟨by kernel_rfl⟩
instance ty155 : TyA Tryz.prog 155 false 1 := ⟨fun _ => by kernel_rfl, fun _ => by kernel_rfl⟩
instance ze155 : ZeroA Tryz.prog 155 (Value.nilFunc) := ⟨fun _ => by kernel_rfl⟩
instance in155 : InfoA Tryz.prog 155 (Value.nilFunc) 1 8 := ⟨by kernel_rfl⟩
instance ty157 : TyA Tryz.prog 157 false 1 := ⟨fun _ => by kernel_rfl, fun _ => by kernel_rfl⟩
instance ze157 : ZeroA Tryz.prog 157 (Value.nilFunc) := ⟨fun _ => by kernel_rfl⟩
instance in157 : InfoA Tryz.prog 157 (Value.nilFunc) 1 8 := ⟨by kernel_rfl⟩
instance ty158 : TyA Tryz.prog 158 false 1 := ⟨fun _ => by kernel_rfl, fun _ => by kernel_rfl⟩
instance ze158 : ZeroA Tryz.prog 158 (Value.nilFunc) := ⟨fun _ => by kernel_rfl⟩
instance in158 : InfoA Tryz.prog 158 (Value.nilFunc) 1 8 := ⟨by kernel_rfl⟩
instance ty159 : TyA Tryz.prog 159 false 1 := ⟨fun _ => by kernel_rfl, fun _ => by kernel_rfl⟩
instance ze159 : ZeroA Tryz.prog 159 (Value.nilFunc) := ⟨fun _ => by kernel_rfl⟩
instance in159 : InfoA Tryz.prog 159 (Value.nilFunc) 1 8 := ⟨by kernel_rfl⟩
instance ty160 : TyA Tryz.prog 160 false 1 := ⟨fun _ => by kernel_rfl, fun _ => by kernel_rfl⟩
instance ze160 : ZeroA Tryz.prog 160 (Value.nilFunc) := ⟨fun _ => by kernel_rfl⟩
instance in160 : InfoA Tryz.prog 160 (Value.nilFunc) 1 8 := ⟨by kernel_rfl⟩
instance ty162 : TyA Tryz.prog 162 false 1 := ⟨fun _ => by kernel_rfl, fun _ => by kernel_rfl⟩
instance ze162 : ZeroA Tryz.prog 162 (Value.nilFunc) := ⟨fun _ => by kernel_rfl⟩
instance in162 : InfoA Tryz.prog 162 (Value.nilFunc) 1 8 := ⟨by kernel_rfl⟩
instance ty163 : TyA Tryz.prog 163 false 1 := ⟨fun _ => by kernel_rfl, fun _ => by kernel_rfl⟩
instance ze163 : ZeroA Tryz.prog 163 (Value.nilFunc) := ⟨fun _ => by kernel_rfl⟩
instance in163 : InfoA Tryz.prog 163 (Value.nilFunc) 1 8 := ⟨by kernel_rfl⟩
instance ty169 : TyA Tryz.prog 169 false 1 := ⟨fun _ => by kernel_rfl, fun _ => by kernel_rfl⟩
instance ze169 : ZeroA Tryz.prog 169 (Value.nilFunc) := ⟨fun _ => by kernel_rfl⟩
instance in169 : InfoA Tryz.prog 169 (Value.nilFunc) 1 8 := ⟨by kernel_rfl⟩
instance ty172 : TyA Tryz.prog 172 false 1 := ⟨fun _ => by kernel_rfl, fun _ => by kernel_rfl⟩
instance ze172 : ZeroA Tryz.prog 172 (Value.nilFunc) := ⟨fun _ => by kernel_rfl⟩
instance in172 : InfoA Tryz.prog 172 (Value.nilFunc) 1 8 := ⟨by kernel_rfl⟩
instance bu176 : BuildA Tryz.prog 176 [(0, 1), (1, 1), (2, 1), (3, 1), (4, 1), (5, 1), (6, 1), (7, 1), (8, 1), (9, 1), (10, 1)] := ⟨by kernel_rfl, by kernel_rfl⟩
instance bu177 : BuildA Tryz.prog 177 [(0, 1), (1, 1), (2, 1), (3, 1), (4, 1), (5, 1), (6, 1), (7, 1), (8, 1), (9, 1), (10, 1)] := ⟨by kernel_rfl, by kernel_rfl⟩
end Go.Proofs.YtlfkofkdigmnpaaGreatDoor
/- Functions with one deferred call; the deferred function, that may recover. Generic over the program. -/
namespace Go.Proofs.YtlfkofkdigmnpaaGreatDoor
set_option maxRecDepth 100000
set_option maxHeartbeats 16000000
open Go Go.RowKit
section
variable {P : Program} {M : Nat → Nat → Prop} {n : Nat} {h : Home} {w : World} {S : AS} {ρ : Nat → Value} {a : Act}
theorem wZ.defer (hb : wZ h w) (D : List Deferred) : wZ { h with d := D } w := ⟨hb.os, hb.tape, hb.output, hb.size, hb.block⟩
theorem wZ.undefer {D : List Deferred} (hb : wZ { h with d := D } w) : wZ h w := ⟨hb.os, hb.tape, hb.output, hb.size, hb.block⟩
theorem Sat.frame {B : List Blk} (hs : Sat M 0 h (Proofs.YtlfkofkdigmnpaaGreatDoor.asB B) ρ vR w) {T : List (Nat × AV)} (hn : a.tmps.size = n) (h1000 : n ≤ 1000) (ht : ∀ i x, look T i = some x → yN (Mut M (Proofs.YtlfkofkdigmnpaaGreatDoor.asB B) ρ) ρ w x (a.tmps.getD i undef)) : Sat M n { h with d := a.defers } { t := T, s := numB 1000 B } ρ a w := by
  refine ⟨hs.below.defer _, hs.out, hs.tab, hn, rfl, fun i => ?_, hs.blks, hs.mine, hs.fix, fun k hk => h.lo k (by omega), hs.dist⟩
  show yN _ _ _ ((look T i).getD .any) _
  cases e : look T i with
  | none => exact .any _
  | some x => exact ht i x e
theorem Sat.unframe {B : List Blk} {D : List Deferred} (hs : Sat M n { h with d := D } S ρ a w) (hd : h.d = []) (hb : HasB S B) : Sat M 0 h (Proofs.YtlfkofkdigmnpaaGreatDoor.asB B) ρ vR w ∧ ∀ k c, Mut M (Proofs.YtlfkofkdigmnpaaGreatDoor.asB B) ρ k c → Mut M S ρ k c := by
  have hm : ∀ k c, Mut M (Proofs.YtlfkofkdigmnpaaGreatDoor.asB B) ρ k c → Mut M S ρ k c := by
    rintro k c (hk | ⟨id, b, hb1, hk⟩)
    · exact .inl hk
    · obtain ⟨i, rfl, h1⟩ := wX hb1
      exact .inr ⟨_, b, hb i b h1, hk⟩
  refine ⟨⟨hs.below.undefer, hs.out, hs.tab, rfl, hd.symm, fun i => .any _, fun id b hb1 => ?_, fun id b k hb1 hk => ?_, hs.fix, fun k hk => by omega, fun i j bi bj k hi hj h1 h2 => ?_⟩, hm⟩
  · obtain ⟨i, rfl, h1⟩ := wX hb1
    exact (hs.blks _ b (hb i b h1)).mono hm
  · obtain ⟨i, rfl, h1⟩ := wX hb1
    exact hs.mine _ b k (hb i b h1) hk
  · obtain ⟨i', rfl, h3⟩ := wX hi
    obtain ⟨j', rfl, h4⟩ := wX hj
    exact hs.dist _ _ bi bj k (hb i' bi h3) (hb j' bj h4) h1 h2
theorem gives_res {fn : Func} {x : AV} {B : List Blk} {D : List Deferred} (hs' : Sat M n { h with d := D } S ρ a w) (hd : h.d = []) (hg : GivesA P fn S x) (hB : HasB S B) :
    ∃ v, (results fn a.tmps).run P w = .ok v w ∧ ∃ ρ', Sat M 0 h (asB B) ρ' vR w ∧ EvOK (Mut M (asB B) ρ') ρ' w (.ret x) (.returned v) := by
  obtain ⟨h1, h2⟩ := hs'.unframe hd hB
  cases hg with
  | none hr => exact ⟨_, results_none hr _ _ _, ρ, h1, _, rfl, .any _⟩
  | one hr ht =>
    subst ht
    exact ⟨_, results_tmp hr _ _ _, ρ, h1, _, rfl, (hs'.tmps _).mono fun k c _ hk => h2 k c hk⟩
  | p hr hx =>
    obtain ⟨v, g1, g2⟩ := res_oneM hs' hx
    have g3 := vI (P := P) (w := w) fn a.tmps (rs := [_]) (vs := [v]) hr (by simp only [List.mapM_cons, List.mapM_nil, Sem.run_bind, Sem.run_pure, g1, Result.andThen_ok])
    exact ⟨v, g3, ρ, h1, _, rfl, .p (g2.mono fun k c _ hk => h2 k c hk)⟩
  | tup hr hl hx =>
    obtain ⟨us, g1, g2, g4, g3⟩ := res_allM hs' hx
    have g5 := vI (P := P) (w := w) fn a.tmps hr g1
    rw [dif_neg (by simp only [List.size_toArray]; omega)] at g5
    refine ⟨_, g5, ρ, h1, _, rfl, .tup _ us (by simpa using g2) fun i c v hc hv => ?_⟩
    rw [List.getElem?_map, Option.map_eq_some_iff] at hc
    obtain ⟨y, hy, rfl⟩ := hc
    exact .p ((g3 i y v hy hv).mono fun k c _ hk => h2 k c hk)
end
/-- what is pending at a deferred call: nothing, or a panic -/
def Pending (M : Nat → Nat → Prop) (w : World) : Option PV → FrameMode → Prop
  | none, u => u = .returning
  | some x, u => ∃ v, u = .panicking [{ v := v, recovered := false }] ∧ Rep M w x v
/-- Function f, called deferred, of its callers' variables B: behind it nothing is pending. -/
def FnD (P : Program) (f : FuncId) (B : List Blk) (px : Option PV) (B' : List Blk) : Prop :=
  ∀ (M : Nat → Nat → Prop) (h : Home) (ρ : Nat → Value) (vs : List Value) (u : FrameMode), Handed h B ρ → Sat M 0 h (asB B) ρ vR h.w → vs.length = B.length →
    (∀ (i : Nat) v, vs[i]? = some v → yN (Mut M (asB B) ρ) ρ h.w (.ptr (1000 + i) 0) v) → Pending (Mut M (asB B) ρ) h.w px u →
    CallsD P f vs.toArray u h.w fun e u' w' => settle u' = .returning ∧ (∃ v, e = .returned v) ∧ ∃ ρ', Sat M 0 h (asB B') ρ' vR w'
section
variable {P : Program} {n : Nat}
theorem wpS_recover {id : Nat} {o0 : Oper} {l : List Oper} {ts : Array TypeId} {Q : Exit → Act → List Frame → World → Prop} {a : Act} {cs cs' : List Frame} {w : World} {v : Value} (ho : o0.op = .call { callee := .builtin .recover, args := #[], argTypes := ts }) (hg : o0.guard = none)
    (hrec : recoverD cs = some (v, cs') ∨ (recoverD cs = none ∧ v = .nilIface ∧ cs' = cs)) (h : wpList P (o0 :: l).toArray (fun e a' w' => Q e a' cs' w') l (a.put o0.dst v) w) : (Code.region id (o0 :: l).toArray false).wpS P Q a cs w := by
  intro b k hb hro
  have hr : (execOp a.eval o0).run P w = .ok .recover w := by unfold execOp; rw [ho]; rfl
  have hw : Region.wanted o0 (yielded (o0 :: l).toArray a.tmps) = true := by simp [Region.wanted, hg]
  have h0 : (o0 :: l).toArray[0]? = some o0 := rfl
  have e : List.range (o0 :: l).toArray.size = 0 :: List.range' 1 l.length := by
    rw [List.size_toArray, List.length_cons, List.range_eq_range', List.range'_succ]
  have h1 : step P (lone (b.at a (.code (.region id (o0 :: l).toArray false) :: k)) cs w) = .next (lone (b.at a (.inRegion (o0 :: l).toArray (0 :: List.range' 1 l.length) :: k)) cs w) := by rw [← e]; exact step_region
  have h2 : step P (lone (b.at a (.inRegion (o0 :: l).toArray (0 :: List.range' 1 l.length) :: k)) cs w) = .next (lone (b.at (a.put o0.dst v) (.inRegion (o0 :: l).toArray (List.range' 1 l.length) :: k)) cs' w) := by
    have hs := stepG_op (P := P) (b := b) (k := k) (cs := cs) (w := w) (rest := List.range' 1 l.length) h0 hw
    have hfin : ∀ v, (b.at a (.inRegion (o0 :: l).toArray (0 :: List.range' 1 l.length) :: k)).finish v = b.at (a.put o0.dst v) (.inRegion (o0 :: l).toArray (List.range' 1 l.length) :: k) := by
      intro v; rw [Frame.finish_at, h0]; rfl
    have hk : (b.at a (.inRegion (o0 :: l).toArray (0 :: List.range' 1 l.length) :: k)).kind = .deferred := hb
    have htr := tryRecover_deferred hk cs
    refine step_lone_go ?_
    rw [hs, ← hfin]
    simp only [Frame.at] at htr ⊢
    rcases hrec with hrec | ⟨hrec, rfl, rfl⟩
    · simp [stepG.apply, hr, htr, hrec]
    · simp [stepG.apply, hr, htr, hrec]
  have h3 : wpOps P (o0 :: l).toArray (fun e a' w' => Q e a' cs' w') (List.range' 1 l.length) (a.put o0.dst v) w := by
    rw [wpOps_eq_wpList l 1 (fun j => by simp [Nat.add_comm 1 j])]
    exact h
  obtain ⟨ex, a', w', hq, harr⟩ := wp_ops _ _ _ h3 b k cs'
  exact ⟨ex, a', cs', w', hq, .of_steps (.head h1 (.one h2)) harr⟩
def ptrsA (m : Nat) : List AV := (List.range m).map fun i => .ptr (1000 + i) 0
def pendV : Option PV → PV
  | none => .val .nilIface
  | some x => x
def EndR (B' : List Blk) (e : Exit) (S : AS) : Prop := (e = .ret ∨ e = .normal) ∧ HasB S B'
theorem fn_ofDef {f : FuncId} {fn : Func} {id d0 : Nat} {o0 : Oper} {l : List Oper} {rest : Code} {ts : Array TypeId} {B B' : List Blk} {px : Option PV} (hf : P.funcs[f]? = some fn) (hb : fn.body = some (.seq (.region id (o0 :: l).toArray false) rest)) (hn : fn.ntmps = n) (hle : B.length ≤ n) (h1000 : n ≤ 1000)
    (ho : o0.op = .call { callee := .builtin .recover, args := #[], argTypes := ts }) (hg : o0.guard = none) (hd : o0.dst = some d0) (hdn : d0 < n) (hr : fn.results = #[])
    (h : zZ P n (o0 :: l).toArray l { t := (d0, .p (pendV px)) :: zipA 0 (ptrsA B.length), s := numB 1000 B } (yJ (fun S => zX P n rest S (EndR B')) (EndR B'))) : FnD P f B px B' := by
  intro M hh ρ vs u hand hs0 hvl hvs hpend
  refine callsD_of_wpS hf hb fun c₀ cs hu => ?_
  have hm : ({ c₀ with mode := u } : Frame) = c₀ := by subst hu; rfl
  obtain ⟨v, u', hrec, hset, hv⟩ : ∃ v u', ((recoverD (c₀ :: cs) = some (v, { c₀ with mode := u' } :: cs)) ∨ (recoverD (c₀ :: cs) = none ∧ v = .nilIface ∧ { c₀ with mode := u' } :: cs = c₀ :: cs)) ∧ settle u' = .returning ∧ Rep (Mut M (asB B) ρ) hh.w (pendV px) v := by
    cases px with
    | none =>
      obtain rfl : u = .returning := hpend
      exact ⟨.nilIface, .returning, .inr ⟨by simp [recoverD, hu], rfl, by rw [hm]⟩, rfl, .val _⟩
    | some x =>
      obtain ⟨v, rfl, hv⟩ := hpend
      exact ⟨v, .panicking [{ v := v, recovered := true }], .inl (by simp [recoverD, hu]), by simp [settle], hv⟩
  have hsat : Sat M n hh { t := zipA 0 (ptrsA B.length), s := numB 1000 B } ρ { tmps := vs.toArray ++ Array.replicate (fn.ntmps - vs.toArray.size) undef, defers := [] } hh.w := by
    refine ⟨hs0.below, hs0.out, hs0.tab, by simp; omega, hs0.defers, fun i => ?_, hs0.blks, hs0.mine, hs0.fix, fun k hk => hh.lo k (by omega), hs0.dist⟩
    show yN _ _ _ ((look (zipA 0 (ptrsA B.length)) i).getD .any) _
    rw [look_zipA]
    simp only [Nat.zero_le, if_true, Nat.sub_zero]
    cases hx : (ptrsA B.length)[i]? with
    | none => exact .any _
    | some x =>
      have hi : i < vs.length := by
        have := (List.getElem?_eq_some_iff.1 hx).1
        simp [ptrsA] at this
        omega
      have e : ({ tmps := vs.toArray ++ Array.replicate (fn.ntmps - vs.toArray.size) undef, defers := [] } : Act).tmps.getD i undef = vs[i] := by
        simp [Array.getD_eq_getD_getElem?, Array.getElem?_append, hi]
      rw [e]
      have hx2 : x = .ptr (1000 + i) 0 := by
        unfold ptrsA at hx
        rw [List.getElem?_map, List.getElem?_range (by omega)] at hx
        exact (Option.some.inj hx).symm
      subst hx2
      exact hvs i vs[i] (List.getElem?_eq_getElem hi)
  have hsat2 := hsat.put hdn (.p hv)
  have fin : ∀ e S1 ρ1 a1 w1, EndR B' (bare e) S1 → Sat M n hh S1 ρ1 a1 w1 → bodyPostS P fn c₀ cs (fun e u' w' => settle u' = .returning ∧ (∃ v, e = .returned v) ∧ ∃ ρ', Sat M 0 hh (asB B') ρ' vR w') e a1 ({ c₀ with mode := u' } :: cs) w1 := by
    rintro e S1 ρ1 a1 w1 ⟨he, hB⟩ hs1
    have main : a1.defers = [] ∧ ∃ u'', ({ c₀ with mode := u' } :: cs : List Frame) = { c₀ with mode := u'' } :: cs ∧ ∃ v, (results fn a1.tmps).run P w1 = .ok v w1 ∧ (settle u'' = .returning ∧ (∃ v', Ending.returned v = .returned v') ∧ ∃ ρ', Sat M 0 hh (asB B') ρ' vR w1) :=
      ⟨hs1.defers.trans hs0.defers.symm, u', rfl, _, results_none hr _ _ _, hset, ⟨_, rfl⟩, ρ1, (hs1.asB hs0.defers.symm hB).1⟩
    cases e with
    | ret => exact main
    | normal => exact main
    | exit id => rcases he with h | h <;> cases h
    | goto l => rcases he with h | h <;> cases h
    | panic c => rcases he with h | h <;> cases h
    | outgrown => rcases he with h | h <;> cases h
  refine wpS_seq (wpS_recover ho hg hrec ?_)
  rw [hd]
  refine h M hh ρ _ hh.w _ hsat2 fun e S1 ρ1 a1 w1 hk hs1 _ => ?_
  cases e with
  | normal => exact wpS_of_wp (hk M hh ρ1 a1 w1 _ hs1 fun e S2 ρ2 a2 w2 hk2 hs2 _ => fin e S2 ρ2 a2 w2 hk2 hs2)
  | ret => exact fin .ret S1 ρ1 a1 w1 hk hs1
  | exit id => exact fin (.exit id) S1 ρ1 a1 w1 hk hs1
  | goto l => exact fin (.goto l) S1 ρ1 a1 w1 hk hs1
  | panic c => exact fin (.panic c) S1 ρ1 a1 w1 hk hs1
  | outgrown => exact fin .outgrown S1 ρ1 a1 w1 hk hs1
end
end Go.Proofs.YtlfkofkdigmnpaaGreatDoor
/- Functions with one deferred call. Generic over the program. -/
namespace Go.Proofs.YtlfkofkdigmnpaaGreatDoor
set_option maxRecDepth 100000
set_option maxHeartbeats 16000000
open Go Go.RowKit
/-- how the body ends that has deferred function fd over its variables dj -/
def EndD (P : Program) (fn : Func) (fd : FuncId) (dj : List Nat) (x : AV) (B' : List Blk) (e : Exit) (S : AS) : Prop :=
  ∃ (px : Option PV) (Bd Bd' : List Blk), FnD P fd Bd px Bd' ∧ ((px = none ∧ (e = .ret ∨ e = .normal)) ∨ (∃ y, px = some y ∧ e = .panic [] ∧ S.x = .p y)) ∧ Hands S dj Bd ∧ Bd'.length = Bd.length ∧ Bd'.all (Blk.okE Bd.length) = true ∧
    GivesA P fn (S.after dj Bd') x ∧ HasB (S.after dj Bd') B'
theorem look_mem2 {α : Type} : ∀ {l : List (Nat × α)} {i : Nat} {x : α}, look l i = some x → (i, x) ∈ l
  | [], _, _, h => by simp [look] at h
  | (k, y) :: r, i, x, h => by
    unfold look at h
    split at h
    · rename_i hk
      obtain rfl := Option.some.inj h
      subst hk
      simp
    · exact List.mem_cons_of_mem _ (look_mem2 h)
section
variable {P : Program} {n : Nat}
def PendA (M : Nat → Nat → Prop) (w : World) : Option PV → FrameMode → List Value → Prop
  | none, u, pv => u = .returning ∧ pv = []
  | some x, u, pv => ∃ v, pv = [v] ∧ u = .panicking [{ v := v, recovered := false }] ∧ Rep M w x v
/-- the deferred call, out of the frame -/
theorem def_call {fd : FuncId} {dj : List Nat} {px : Option PV} {Bd Bd' : List Blk} {M : Nat → Nat → Prop} {w0 : Home} {S : AS} {ρ : Nat → Value} {a : Act} {w : World} {cvs pv : List Value} {u : FrameMode} (hfd : FnD P fd Bd px Bd') (hh : Hands S dj Bd) (hl : Bd'.length = Bd.length) (hok : Bd'.all (Blk.okE Bd.length) = true)
    (hs : Sat M n w0 S ρ a w) (hcv : cvs.length = dj.length) (hcw : ∀ (i : Nat) k v, dj[i]? = some k → cvs[i]? = some v → ∃ g, yK (ρ k) = some g ∧ v = .pointer (some ⟨g, 0, none⟩)) (hp : PendA (Mut M S ρ) w px u pv) :
    CallsD P fd cvs.toArray u w fun e u' w' => settle u' = .returning ∧ (∃ v, e = .returned v) ∧ Sat M n w0 (S.after dj Bd') ρ a w' := by
  have hdl : dj.length = Bd.length := hh.len
  have hptr : (ptrsA Bd.length).length = Bd.length := by simp [ptrsA]
  have hat : ∀ i, i < Bd.length → (ptrsA Bd.length)[i]? = some (.ptr (1000 + i) 0) := fun i hi => by
    unfold ptrsA
    rw [List.getElem?_map, List.getElem?_range hi]
    rfl
  have c := call_effC (C := fun R0 => CallsD P fd cvs.toArray u w fun e u' w' => settle u' = .returning ∧ (∃ v, e = .returned v) ∧ R0 e w') (fun R1 R2 h12 hc => hc.mono fun e u' w' ⟨q1, q2, q3⟩ => ⟨q1, q2, h12 e w' q3⟩)
    (xs := ptrsA Bd.length ++ px.toList.map AV.p) (ids := dj) (B := Bd) (B' := Bd') (ev := .ret .any) hh hl hok (by
      rw [List.all_append, Bool.and_eq_true]
      refine ⟨List.all_eq_true.2 fun y hy => ?_, List.all_eq_true.2 fun y hy => ?_⟩
      · obtain ⟨i, hi, rfl⟩ := List.mem_map.1 hy
        have := List.mem_range.1 hi
        simp [AV.okE, this]
      · obtain ⟨z, _, rfl⟩ := List.mem_map.1 hy
        rfl) hs (vs := cvs ++ pv) (fun i y v h1 h2 => ?_) (fun M' h' ρ' hw _ hand hsat hreps _ => ?_)
  · exact c.mono fun e u' w' ⟨q1, q2, q3, _⟩ => ⟨q1, q2, q3⟩
  · by_cases hi : i < Bd.length
    · rw [List.getElem?_append_left (by omega)] at h1 h2
      rw [hat i hi] at h1
      obtain rfl := Option.some.inj h1
      have hk : dj[i]? = some (dj[i]'(by omega)) := List.getElem?_eq_getElem _
      obtain ⟨g, hg1, rfl⟩ := hcw i _ v hk h2
      show yN _ ρ w (.ptr (sig dj (1000 + i)) 0) _
      rw [sig_at hk]
      exact .ptr _ 0 g hg1
    · rw [List.getElem?_append_right (by omega), hptr] at h1
      rw [List.getElem?_append_right (by omega), hcv, hdl] at h2
      cases px with
      | none => simp at h1
      | some x =>
        obtain ⟨v', rfl, _, hr⟩ := hp
        obtain ⟨j, hj⟩ : ∃ j, i - Bd.length = j := ⟨_, rfl⟩
        rw [hj] at h1 h2
        cases j with
        | zero =>
          simp at h1 h2
          subst h1
          subst h2
          exact .p hr
        | succ j => simp at h1
  · subst hw
    have hpend : Pending (Mut M' (asB Bd) ρ') h'.w px u := by
      cases px with
      | none => exact hp.1
      | some x =>
        obtain ⟨v', rfl, hu, _⟩ := hp
        refine ⟨v', hu, ?_⟩
        have h3 := hreps Bd.length (.p x) v' (by rw [List.getElem?_append_right (by omega), hptr]; simp) (by rw [List.getElem?_append_right (by omega), hcv, hdl]; simp)
        cases h3 with
        | p h4 => exact h4
    refine (hfd M' h' ρ' cvs u hand hsat (by omega) (fun i v hv => hreps i _ v ?_ ?_) hpend).mono fun e u' w' ⟨q1, ⟨v, q2⟩, ρ2, q3⟩ => ⟨q1, ⟨v, q2⟩, ρ2, q3, v, q2, .any _⟩
    · have hi := (List.getElem?_eq_some_iff.1 hv).1
      rw [List.getElem?_append_left (by omega)]
      exact hat i (by omega)
    · rw [List.getElem?_append_left (List.getElem?_eq_some_iff.1 hv).1]
      exact hv
/-- What is behind the body, once the deferred call has been made. -/
theorem leave_one {fn : Func} {fd : FuncId} {dj : List Nat} {x : AV} {B' : List Blk} {M : Nat → Nat → Prop} {h : Home} {D : List Deferred} {S : AS} {ρ : Nat → Value} {a : Act} {w : World} {e : Exit} {cvs : List Value} {R : Ending → World → Prop} [hcf : HasFn P fd]
    (hs : Sat M n { h with d := D } S ρ a w) (hd : h.d = []) (hD : D = [{ target := .fn (.func fd) cvs.toArray, args := #[] }]) (he : EndD P fn fd dj x B' (bare e) S) (hex : ExOK M S ρ w e) (hcv : cvs.length = dj.length)
    (hcw : ∀ (i : Nat) k v, dj[i]? = some k → cvs[i]? = some v → ∃ g, yK (ρ k) = some g ∧ v = .pointer (some ⟨g, 0, none⟩))
    (hR : ∀ e w', (∃ ρ', Sat M 0 h (asB B') ρ' vR w' ∧ EvOK (Mut M (asB B') ρ') ρ' w' (.ret x) e) → R e w') : bodyPostD P fn R e a w := by
  obtain ⟨px, Bd, Bd', hfd, hpx, hh, hl, hok, hg, hB⟩ := he
  have hinv : (invoke (.fn (.func fd) cvs.toArray) #[]).run P w = .ok (.enter fd cvs.toArray) w := by simp [invoke, hcf.h]
  have hdf : a.defers = [{ target := .fn (.func fd) cvs.toArray, args := #[] }] := hs.defers.trans hD
  have fin : ∀ (u : FrameMode) (pv : List Value), u ≠ .run → PendA (Mut M S ρ) w px u pv → Leaves P fn a.tmps R a.defers u w := by
    intro u pv hu hp
    rw [hdf]
    refine leaves_cons hu hinv ((def_call hfd hh hl hok hs hcv hcw hp).mono fun e u' w' ⟨q1, ⟨v, q2⟩, q3⟩ => ?_)
    subst q2
    show Leaves P fn a.tmps R [] (settle u') w'
    rw [q1]
    obtain ⟨v', r1, r2⟩ := gives_res q3 hd hg hB
    exact ⟨v', r1, hR _ _ r2⟩
  rcases hpx with ⟨rfl, he⟩ | ⟨y, rfl, he, hy⟩
  · cases e with
    | ret => exact fin .returning [] (by simp) ⟨rfl, rfl⟩
    | normal => exact fin .returning [] (by simp) ⟨rfl, rfl⟩
    | exit id => rcases he with h | h <;> cases h
    | goto l => rcases he with h | h <;> cases h
    | panic c => rcases he with h | h <;> cases h
    | outgrown => rcases he with h | h <;> cases h
  · cases e with
    | panic c =>
      obtain ⟨v, rfl, hv⟩ := hex
      rw [hy] at hv
      cases hv with
      | p hv => exact fin (.panicking [{ v := v, recovered := false }]) [v] (by simp) ⟨v, rfl, rfl, hv⟩
    | ret => cases he
    | normal => cases he
    | exit id => cases he
    | goto l => cases he
    | outgrown => cases he
theorem fn_ofD {f : FuncId} {fn : Func} {c0 rest : Code} {id d fd : Nat} {o1 o2 : Oper} {caps : Array Operand} {ts : Array TypeId} {args : List AV} {B B' Bi Bi' : List Blk} {x : AV} {S1 : AS} {dids dj ids : List Nat} {T : List (Nat × AV)} [hcf : HasFn P fd]
    (hf : P.funcs[f]? = some fn) (hb : fn.body = some (.seq c0 (.seq (.region id [o1, o2].toArray false) rest))) (hn : fn.ntmps = n) (hle : args.length ≤ n) (h1000 : n ≤ 1000)
    (h0 : zX P n c0 { t := zipA 0 args, s := numB 1000 B } (fun e S => e = .normal ∧ S = S1))
    (hg1 : o1.guard = none) (hd1 : o1.dst = some d) (hdn : d < n) (ho1 : o1.op = .makeFunc (.func fd) #[] caps) (hc : readIds (caps.toList.map S1.get) = some dids)
    (hg2 : o2.guard = none) (hd2 : o2.dst = none) (ho2 : o2.op = .defer { callee := .value (.tmp d), args := #[], argTypes := ts })
    (hdj : dids = dj.map (sig ids)) (hdr : dj.all (fun k => decide (1000 ≤ k ∧ k < 1000 + Bi.length)) = true)
    (hh : Hands S1 ids Bi) (hBi' : Bi'.length = Bi.length) (hok' : Bi'.all (Blk.okE Bi.length) = true)
    (hT : T.all (fun p => p.2.okE Bi.length) = true) (hT1 : ∀ p ∈ T, S1.tmp p.1 = p.2.ren (sig ids) ∧ d ≠ p.1)
    (h2 : zX P n rest { t := T, s := numB 1000 Bi } (EndD P fn fd dj x Bi')) (hx : x.okE Bi.length = true) (hxr : x.ren (sig ids) = x) (hB' : HasB (S1.after ids Bi') B') : FnE P f args B (.ret x) B' := by
  intro M hh0 ρ vs hand hs0 hvl hvs
  refine calls_of_wp_defers hf hb ?_
  have hsat : Sat M n hh0 { t := zipA 0 args, s := numB 1000 B } ρ { tmps := vs.toArray ++ Array.replicate (fn.ntmps - vs.toArray.size) undef, defers := [] } hh0.w := by
    refine ⟨hs0.below, hs0.out, hs0.tab, by simp; omega, hs0.defers, fun i => ?_, hs0.blks, hs0.mine, hs0.fix, fun k hk => hh0.lo k (by omega), hs0.dist⟩
    show yN _ _ _ ((look (zipA 0 args) i).getD .any) _
    rw [look_zipA]
    simp only [Nat.zero_le, if_true, Nat.sub_zero]
    cases hx : args[i]? with
    | none => exact .any _
    | some x =>
      have hi : i < vs.length := by rw [hvl]; exact (List.getElem?_eq_some_iff.1 hx).1
      have e : ({ tmps := vs.toArray ++ Array.replicate (fn.ntmps - vs.toArray.size) undef, defers := [] } : Act).tmps.getD i undef = vs[i] := by
        simp [Array.getD_eq_getD_getElem?, Array.getElem?_append, hi]
      rw [e]
      exact hvs i x vs[i] hx (List.getElem?_eq_getElem hi)
  refine wp_seq (h0 M hh0 ρ _ hh0.w _ hsat ?_)
  rintro e S' ρ1 a1 w1 ⟨he, rfl⟩ hs1 _
  cases e with
  | ret => cases he
  | exit id => cases he
  | goto l => cases he
  | panic c => cases he
  | outgrown => cases he
  | normal =>
  refine wp_seq (wp_region_lit ?_)
  unfold wpList
  rw [if_pos (by simp [Region.wanted, hg1])]
  refine .inl ((vJ ho1 hc hd1 hdn).step M hh0 ρ1 a1 w1 _ _ hs1 fun ρ2 a2 w2 hs2 => ?_)
  rw [hd1] at hs2
  have hs2 : Sat M n hh0 (S'.put d (.clo fd dids)) ρ2 a2 w2 := hs2
  have hv := hs2.tmps d
  rw [AS.tmp_put, if_pos rfl] at hv
  obtain ⟨cvs, hva, hcl, hcw⟩ : ∃ cvs : List Value, a2.tmps.getD d undef = .func (.func fd) #[] cvs.toArray ∧ cvs.length = dids.length ∧ ∀ (i : Nat) k v, dids[i]? = some k → cvs[i]? = some v → ∃ g, yK (ρ2 k) = some g ∧ v = .pointer (some ⟨g, 0, none⟩) := by
    generalize a2.tmps.getD d undef = u at hv
    cases hv with
    | clo _ _ vs hl h => exact ⟨vs, rfl, hl, h⟩
  unfold wpList
  rw [if_pos (by simp [Region.wanted, hg2])]
  refine .inl ?_
  have hrun : (execOp a2.eval o2).run P w2 = .ok (.defer { target := .fn (.func fd) cvs.toArray, args := #[] }) w2 := by
    unfold execOp
    rw [ho2]
    have hev : a2.eval (.tmp d) = .func (.func fd) #[] cvs.toArray := hva
    simp [resolve, Deferred.ofValue, hev]
  unfold Oper.wp
  rw [hrun, Oper.upon_defer, hd2]
  show rest.wp P _ { a2 with defers := { target := .fn (.func fd) cvs.toArray, args := #[] } :: a2.defers } w2
  rw [hs2.defers.trans hs0.defers.symm]
  -- the rest, in its own frame
  have key := call_effC (C := fun R => ∀ R' : Ending → World → Prop, (∀ e w', R e w' → R' e w') → rest.wp P (bodyPostD P fn R') { a2 with defers := [{ target := .fn (.func fd) cvs.toArray, args := #[] }] } w2) (fun R1 R2 h12 hc R' h' => hc R' fun e w' q => h' e w' (h12 e w' q))
    (xs := T.map Prod.snd) (ids := ids) (B := Bi) (B' := Bi') (ev := .ret x) (S := S'.put d (.clo fd dids)) ⟨hh.len, hh.nodup, hh.ok, hh.at_⟩ hBi' hok' (by rw [List.all_map]; exact hT) hs2 (vs := T.map fun p => a2.tmps.getD p.1 undef) (fun i y v h1 h3 => ?_) (fun M' h' ρ' hw hd' hand' hsat' hreps hfix R' hR' => ?_)
  · refine key _ fun e w' ⟨q1, q2⟩ => ?_
    obtain ⟨r1, r2⟩ := q1.asB hs0.defers.symm hB'
    obtain ⟨v, rfl, r3⟩ := q2 hx
    rw [hxr] at r3
    exact ⟨ρ2, r1, v, rfl, r3.mono fun k c _ hk => r2 k c hk⟩
  · rw [List.getElem?_map, Option.map_eq_some_iff] at h1 h3
    obtain ⟨p, hp, rfl⟩ := h1
    obtain ⟨p', hp', rfl⟩ := h3
    rw [hp] at hp'
    obtain rfl := Option.some.inj hp'
    obtain ⟨q1, q2⟩ := hT1 p (List.mem_of_getElem? hp)
    rw [← q1]
    have := hs2.tmps p.1
    rw [AS.tmp_put, if_neg q2] at this
    exact this
  · have hfr : Sat M' n { h' with d := [{ target := .fn (.func fd) cvs.toArray, args := #[] }] } { t := T, s := numB 1000 Bi } ρ' { a2 with defers := [{ target := .fn (.func fd) cvs.toArray, args := #[] }] } w2 := by
      refine Sat.frame (a := { a2 with defers := [{ target := .fn (.func fd) cvs.toArray, args := #[] }] }) hsat' hs2.size h1000 fun i y hy => ?_
      obtain ⟨j, hj⟩ := List.getElem?_of_mem (look_mem2 hy)
      exact hreps j y _ (by rw [List.getElem?_map, hj]; rfl) (by rw [List.getElem?_map, hj]; rfl)
    refine h2 M' _ ρ' _ w2 _ hfr fun e S2 ρ3 a4 w4 hend hs4 hx4 => ?_
    refine leave_one hs4 hd' rfl hend hx4 (by rw [hcl, hdj, List.length_map]) (fun i k v hk hv => ?_) hR'
    have hkr := List.all_eq_true.1 hdr k (List.mem_of_getElem? hk)
    simp only [decide_eq_true_eq] at hkr
    obtain ⟨g, g1, g2⟩ := hcw i (sig ids k) v (by rw [hdj, List.getElem?_map, hk]; rfl) hv
    refine ⟨g, ?_, g2⟩
    have e1 : ρ3 k = ρ' k := by
      have := hand'.r (k - 1000) (by omega)
      rw [show 1000 + (k - 1000) = k by omega] at this
      exact hs4.fix k _ this
    rw [e1, hfix k hkr.1 hkr.2]
    exact g1
end
end Go.Proofs.YtlfkofkdigmnpaaGreatDoor
/- Functions that take an own row, append to it, and hand it back. Generic over the program. -/
namespace Go.Proofs.YtlfkofkdigmnpaaGreatDoor
set_option maxRecDepth 100000
set_option maxHeartbeats 16000000
open Go Go.RowKit
def asR (b : Blk) : AS := { t := [], s := [(1000, b)] }
/-- Function f, of an own row (its first argument) and pure values: it hands back the row, as b'. -/
def FnR (P : Program) (f : FuncId) (rest : List PV) (b b' : Blk) : Prop :=
  ∀ (M : Nat → Nat → Prop) (h : Home) (ρ : Nat → Value) (vs : List Value), (∀ k, h.t k → yK (ρ 1000) = some k) → (∀ k, h.r k = none) → Sat M 0 h (asR b) ρ vR h.w → vs.length = rest.length →
    (∀ (i : Nat) x v, rest[i]? = some x → vs[i]? = some v → Rep (Mut M (asR b) ρ) h.w x v) →
    Calls P f (ρ 1000 :: vs).toArray h.w fun e w' => ∃ ρ', e = .returned (ρ' 1000) ∧ Sat M 0 h (asR b') ρ' vR w'
theorem asR_blk {b c : Blk} {id : Nat} (h : (asR b).blk id = some c) : id = 1000 ∧ c = b := by
  have h1 : (if 1000 = id then some b else none) = some c := h
  split at h1
  · rename_i h2; exact ⟨h2.symm, (Option.some.inj h1).symm⟩
  · cases h1
section
variable {P : Program} {n : Nat} {o : Oper} {S : AS} {d : Nat}
theorem fn_ofR {f : FuncId} {fn : Func} {c : Code} {rest : List PV} {b b' : Blk} {t : Nat} (hf : P.funcs[f]? = some fn) (hb : fn.body = some c) (hn : fn.ntmps = n) (hle : rest.length + 1 ≤ n) (hr : fn.results = #[.tmp t])
    (h : zX P n c { t := zipA 0 (.own 1000 :: rest.map AV.p), s := [(1000, b)] } (fun e S => (e = .ret ∨ e = .normal) ∧ ∃ S', Sub S S' ∧ S'.tmp t = .own 1000 ∧ S'.blk 1000 = some b')) : FnR P f rest b b' := by
  intro M hh ρ vs hT hR hs0 hvl hvs
  refine calls_of_wp hf hb ?_
  have hsat : Sat M n hh { t := zipA 0 (.own 1000 :: rest.map AV.p), s := [(1000, b)] } ρ { tmps := (ρ 1000 :: vs).toArray ++ Array.replicate (fn.ntmps - (ρ 1000 :: vs).toArray.size) undef, defers := [] } hh.w := by
    refine ⟨hs0.below, hs0.out, hs0.tab, by simp; omega, hs0.defers, fun i => ?_, hs0.blks, hs0.mine, hs0.fix, fun k _ => hR k, hs0.dist⟩
    show yN _ _ _ ((look (zipA 0 (.own 1000 :: rest.map AV.p)) i).getD .any) _
    rw [look_zipA]
    simp only [Nat.zero_le, if_true, Nat.sub_zero]
    cases i with
    | zero =>
      have e : ({ tmps := (ρ 1000 :: vs).toArray ++ Array.replicate (fn.ntmps - (ρ 1000 :: vs).toArray.size) undef, defers := [] } : Act).tmps.getD 0 undef = ρ 1000 := by
        simp [Array.getD_eq_getD_getElem?, Array.getElem?_append]
      rw [e]
      exact .own 1000
    | succ i =>
      rw [List.getElem?_cons_succ, List.getElem?_map]
      cases hx : rest[i]? with
      | none => exact .any _
      | some x =>
        have hi : i < vs.length := by rw [hvl]; exact (List.getElem?_eq_some_iff.1 hx).1
        have e : ({ tmps := (ρ 1000 :: vs).toArray ++ Array.replicate (fn.ntmps - (ρ 1000 :: vs).toArray.size) undef, defers := [] } : Act).tmps.getD (i + 1) undef = vs[i] := by
          simp [Array.getD_eq_getD_getElem?, Array.getElem?_append, hi]
        rw [e]
        exact .p (hvs i x vs[i] hx (List.getElem?_eq_getElem hi))
  refine h M hh ρ _ hh.w _ hsat ?_
  rintro e S0 ρ0 a' w' ⟨he, S', hsub, ht, hblk⟩ hs1 _
  obtain ⟨ρ', hs'⟩ := hsub M n hh ρ0 a' w' hs1
  have hv : a'.tmps.getD t undef = ρ' 1000 := by
    have := hs'.tmps t
    rw [ht] at this
    exact vN this
  have hm : ∀ k c, Mut M (asR b') ρ' k c → Mut M S' ρ' k c := by
    rintro k c (hk | ⟨id, b1, hb1, hk⟩)
    · exact .inl hk
    · obtain ⟨rfl, rfl⟩ := asR_blk hb1
      exact .inr ⟨1000, _, hblk, hk⟩
  have fin : a'.defers = [] ∧ ∃ v, (results fn a'.tmps).run P w' = .ok v w' ∧ (∃ ρ', Ending.returned v = .returned (ρ' 1000) ∧ Sat M 0 hh (asR b') ρ' vR w') := by
    refine ⟨hs'.defers.trans hs0.defers.symm, _, results_tmp hr _ _ _, ρ', by rw [hv], ⟨hs'.below, hs'.out, hs'.tab, rfl, hs0.defers, fun i => .any _, fun id b1 hb1 => ?_, fun id b1 k hb1 hk => ?_, hs'.fix, fun k _ => hR k, fun i j bi bj k hi hj h1 h2 => ?_⟩⟩
    · obtain ⟨rfl, rfl⟩ := asR_blk hb1
      exact (hs'.blks 1000 _ hblk).mono hm
    · obtain ⟨rfl, rfl⟩ := asR_blk hb1
      exact hs'.mine 1000 _ k hblk hk
    · rw [(asR_blk hi).1, (asR_blk hj).1]
  cases e with
  | ret => exact fin
  | normal => exact fin
  | exit id => rcases he with h | h <;> cases h
  | goto l => rcases he with h | h <;> cases h
  | panic c => rcases he with h | h <;> cases h
  | outgrown => rcases he with h | h <;> cases h
/-- where an own row lies -/
theorem row_blk {M : Nat → Nat → Prop} {B : Nat} {ρ : Nat → Value} {w : World} {v : Value} {t sz m : Nat} {cs : List PV} (h : wD M B ρ w v (.prow t sz m cs)) : yK v = v.ownBlock := by
  obtain ⟨ys, ho, _⟩ := h
  exact own_slice ho
/-- The call, run, of a row's value v0: what holds behind it. -/
theorem call_row {f : FuncId} {rest : List PV} {t sz m t' sz' m' : Nat} {cs cs' : List PV} (hf : FnR P f rest (.prow t sz m cs) (.prow t' sz' m' cs')) (hval : ∀ c ∈ cs', ∃ v, c = .val v) {M : Nat → Nat → Prop} {w0 : Home} {ρ : Nat → Value} {a : Act} {w : World} (hs : Sat M n w0 S ρ a w) {v0 : Value} {vs : List Value}
    (hrow : ∀ k c, v0.ownBlock = some k → Mut M S ρ k c) (hown : wD (Mut M S ρ) 0 ρ w v0 (.prow t sz m cs)) (hvl : vs.length = rest.length) (hvs : ∀ (i : Nat) x v, rest[i]? = some x → vs[i]? = some v → Rep (Mut M S ρ) w x v) :
    Calls P f (v0 :: vs).toArray w fun e w' => ∃ v', e = .returned v' ∧ w.grownBy w' v0.ownBlock ∧ (∀ k, yK v' = some k → w.heap.size ≤ k ∨ v0.ownBlock = some k) ∧ wD (fun k c => Mut M S ρ k c ∨ (yK v' = some k ∧ (Blk.prow t' sz' m' cs').turns c)) 0 ρ w' v' (.prow t' sz' m' cs') := by
  have hb0 := row_blk hown
  let T : Nat → Prop := fun k => yK v0 = some k
  have T_mut : ∀ k c, T k → Mut M S ρ k c := fun k c hk => hrow k c (hb0 ▸ hk)
  let M' : Nat → Nat → Prop := fun k c => Mut M S ρ k c ∧ ¬ T k
  let h : Home := ⟨w, T, hs.lays, (fun g hg ht => hs.tabs g 0 hg (T_mut g 0 ht)), (fun _ => none), (fun _ _ h => by cases h), (fun _ _ => rfl), []⟩
  have mutc : ∀ k c, Mut M' (asR (.prow t sz m cs)) (fun _ => v0) k c → Mut M S ρ k c := by
    rintro k c (hk | ⟨id, b, hb, hk, _⟩)
    · exact hk.1
    · exact T_mut k c hk
  have cells : ∀ {ρ1 ρ2 : Nat → Value} {M1 M2 : Nat → Nat → Prop} {w1 : World} {xs : List PV} {ys : List Value}, yM M1 ρ1 w1 (xs.map AV.p) ys → (∀ k c, k < w1.heap.size → M2 k c → M1 k c) → yM M2 ρ2 w1 (xs.map AV.p) ys := by
    intro ρ1 ρ2 M1 M2 w1 xs ys hc hM
    refine ⟨hc.len, fun i c v h1 h2 => ?_, hc.one⟩
    have h3 := hc.each i c v h1 h2
    rw [List.getElem?_map, Option.map_eq_some_iff] at h1
    obtain ⟨y, _, rfl⟩ := h1
    cases h3 with
    | p h4 => exact .p (h4.mono hM)
  have hsat : Sat M' 0 h (asR (.prow t sz m cs)) (fun _ => v0) vR h.w := by
    refine ⟨wZ.refl h, fun k c hk hh2 => ?_, fun g c hg hk => hs.tabs g c hg hk.1, rfl, rfl, fun i => .any _, fun id b hb => ?_, fun id b k hb hk => .inr hk, (fun k v hk => by cases hk), (fun k hk => by omega), (fun i j bi bj k hi hj h1 h2 => by rw [(asR_blk hi).1, (asR_blk hj).1])⟩
    · rcases hh2 with hh2 | hh2
      · exact absurd (Mut.lt hs hk.1) (Nat.not_lt.2 hh2)
      · exact hk.2 hh2
    · obtain ⟨rfl, rfl⟩ := asR_blk hb
      obtain ⟨ys, ho, hc⟩ := hown
      exact ⟨ys, ho, cells hc fun k c _ hk => mutc k c hk⟩
  refine (hf M' h (fun _ => v0) vs (fun k hk => hk) (fun _ => rfl) hsat hvl fun i x v h1 h2 => (hvs i x v h1 h2).mono fun k c _ hk => mutc k c hk).mono ?_
  rintro e w' ⟨ρ2, rfl, hs2⟩
  have hg : w.grownBy w' v0.ownBlock := ⟨hs2.below.os, hs2.below.tape, hs2.below.output, hs2.below.size, fun k hk hne => hs2.below.block k hk (fun ht => hne (by rw [← hb0]; exact ht.symm))⟩
  have hblk : (asR (.prow t' sz' m' cs')).blk 1000 = some (.prow t' sz' m' cs') := rfl
  refine ⟨ρ2 1000, rfl, hg, fun k hk => ?_, ?_⟩
  · rcases hs2.mine 1000 _ k hblk hk with h1 | h1
    · exact .inl h1
    · exact .inr (by rw [← hb0]; exact h1)
  · obtain ⟨ys, ho, hc⟩ := hs2.blks 1000 _ hblk
    refine ⟨ys, ho, hc.len, fun i c v h1 h2 => ?_, hc.one⟩
    have h3 := hc.each i c v h1 h2
    rw [List.getElem?_map, Option.map_eq_some_iff] at h1
    obtain ⟨y, hy, rfl⟩ := h1
    obtain ⟨u, rfl⟩ := hval y (List.mem_of_getElem? hy)
    cases h3 with
    | p h4 => cases h4; exact .p (.val _)
/-- the operands of a call by a contract on a row -/
def rowArgs (S : AS) (args : Array Operand) (x : Operand) (rest : List PV) : Prop := ∃ r, args.toList = x :: r ∧ r.map S.get = rest.map AV.p
theorem reps_rest {M : Nat → Nat → Prop} {w0 : Home} {ρ : Nat → Value} {a : Act} {w : World} (hs : Sat M n w0 S ρ a w) {r : List Operand} {rest : List PV} (h : r.map S.get = rest.map AV.p) : ∀ (i : Nat) x v, rest[i]? = some x → (r.map a.eval)[i]? = some v → Rep (Mut M S ρ) w x v := by
  intro i x v hx hv
  rw [List.getElem?_map, Option.map_eq_some_iff] at hv
  obtain ⟨y, hy, rfl⟩ := hv
  have h3 : S.get y = .p x := by
    have h4 : (r.map S.get)[i]? = (rest.map AV.p)[i]? := by rw [h]
    rw [List.getElem?_map, List.getElem?_map, hy, hx] at h4
    simpa using h4
  exact yT hs h3
/-- The call with an own row. -/
theorem s_callR {f : FuncId} {args : Array Operand} {ts : Array TypeId} {x : Operand} {id : Nat} {rest : List PV} {t sz m t' sz' m' : Nat} {cs cs' : List PV} [hc : HasFn P f] (hf : FnR P f rest (.prow t sz m cs) (.prow t' sz' m' cs')) (hval : ∀ c ∈ cs', ∃ v, c = .val v)
    (ho : o.op = .call { callee := .value (.func f), args := args, argTypes := ts }) (ha : rowArgs S args x rest) (hx : S.get x = .own id) (hb : S.blk id = some (.prow t sz m cs)) (hd : o.dst = some d) (hn : d < n) :
    Step P n o S ((S.create id (.prow t' sz' m' cs')).put d (.own id)) := by
  intro M w0 ρ a w K Q hs hK
  obtain ⟨r, har, hr⟩ := ha
  have h1 := hs.rep x
  rw [hx] at h1
  have hv0 := vN h1
  have hown := hs.blks id _ hb
  have hb0 := row_blk hown
  have hrun : (execOp a.eval o).run P w = .ok (.enter f (ρ id :: r.map a.eval).toArray) w := by
    have e : (args.map a.eval) = (ρ id :: r.map a.eval).toArray := by
      apply Array.ext'
      rw [Array.toList_map, har, List.map_cons, hv0]
    unfold execOp
    rw [ho, ← e]
    simp [resolve, Deferred.ofValue, Act.eval, invoke, hc.h]
  unfold Oper.wp
  rw [hrun, Oper.upon_enter]
  refine (call_row hf hval hs (fun k c hk => .inr ⟨id, _, hb, by rw [hb0]; exact hk, trivial⟩) hown (by simpa using congrArg List.length hr) (reps_rest hs hr)).mono ?_
  rintro e w' ⟨v', rfl, hg, hnew, hok⟩
  show K (a.put o.dst v') w'
  rw [hd]
  have hfree : w0.r id = none := by
    obtain ⟨ys, ho2, _⟩ := hown
    exact row_free hs ho2
  have hs' := hs.change id (.prow t' sz' m' cs') v' (ρ id).ownBlock hfree hg (fun k hk => ⟨_, hb, by rw [hb0]; exact hk, fun _ _ => trivial, fun _ h => (h trivial).elim⟩) hnew hok
  refine hK _ _ w' (hs'.put hn ?_)
  have := yN.own (M := Mut M (S.create id (.prow t' sz' m' cs')) (upd ρ id v')) (ρ := upd ρ id v') (w := w') id
  simpa [upd] using this
/-- The call with nil: a row of the frame's own is made. -/
theorem s_callRnil {f : FuncId} {args : Array Operand} {ts : Array TypeId} {x : Operand} {rest : List PV} {t sz t' sz' m' : Nat} {cs' : List PV} [hc : HasFn P f] (hf : FnR P f rest (.prow t sz 0 []) (.prow t' sz' m' cs')) (hval : ∀ c ∈ cs', ∃ v, c = .val v)
    (ho : o.op = .call { callee := .value (.func f), args := args, argTypes := ts }) (ha : rowArgs S args x rest) (hx : S.get x = .p (.val (.slice none 0 0))) (hd : o.dst = some d) (hn : d < n) :
    Step P n o S ((S.create d (.prow t' sz' m' cs')).put d (.own d)) := by
  intro M w0 ρ a w K Q hs hK
  obtain ⟨r, har, hr⟩ := ha
  have hv0 := hs.val hx
  have hown : wD (Mut M S ρ) 0 ρ w (.slice none 0 0) (.prow t sz 0 []) := ⟨[], World.ownsRow_nil w _ t sz, rfl, (fun i c v h => by simp at h), (fun v h => by simp at h)⟩
  have hrun : (execOp a.eval o).run P w = .ok (.enter f (.slice none 0 0 :: r.map a.eval).toArray) w := by
    have e : (args.map a.eval) = (Value.slice none 0 0 :: r.map a.eval).toArray := by
      apply Array.ext'
      rw [Array.toList_map, har, List.map_cons, hv0]
    unfold execOp
    rw [ho, ← e]
    simp [resolve, Deferred.ofValue, Act.eval, invoke, hc.h]
  unfold Oper.wp
  rw [hrun, Oper.upon_enter]
  refine (call_row hf hval hs (fun k c hk => by cases hk) hown (by simpa using congrArg List.length hr) (reps_rest hs hr)).mono ?_
  rintro e w' ⟨v', rfl, hg, hnew, hok⟩
  show K (a.put o.dst v') w'
  rw [hd]
  have hs' := hs.change d (.prow t' sz' m' cs') v' none (hs.free d hn) ⟨hg.os, hg.tape, hg.output, hg.size, fun k hk _ => hg.block k hk (fun e => by cases e)⟩ (fun k hk => by cases hk) (fun k hk => (hnew k hk).elim .inl (fun e => by cases e)) hok
  refine hK _ _ w' (hs'.put hn ?_)
  have := yN.own (M := Mut M (S.create d (.prow t' sz' m' cs')) (upd ρ d v')) (ρ := upd ρ d v') (w := w') d
  simpa [upd] using this
end
end Go.Proofs.YtlfkofkdigmnpaaGreatDoor
/- What makes accesses, told by a log: the closure of play.Run; and play's accesses. -/
namespace Go.Proofs.YtlfkofkdigmnpaaGreatDoor
set_option maxRecDepth 100000
set_option maxHeartbeats 16000000
open Go Go.RowKit
set_option linter.unusedSimpArgs false
attribute [local irreducible] zZ zX Step zG Sub zP zM Fn
/-- a result, as a log tells it -/
structure zO where
  n : Int
  b : PV
  fail : Bool
def resV (r : zO) : PV := .agg [.val (.int .u64 r.n), r.b, .val (.bool r.fail)]
def logV (L : List zO) : PV := .sl (L.map resV)
/-- an access -/
def xP (kind cell a b : Int) (data : PV) : PV := .agg [.val (.int .i64 kind), .val (.int .i64 cell), .val (.int .u64 a), .val (.int .u64 b), data, .val (.slice none 0 0)]
def yD : PV := .val (.slice none 0 0)
def atB (i : Nat) : Blk := .box 3 [.p (.val (.int .i64 i))]
def xM (L : List zO) : Blk := .box 25 [.p (logV L)]
def DoB (L : List zO) (i : Nat) : List Blk := [atB i, xM L]
/-- the closure -/
def doA : AV := .clo 32 [1000, 1001]
theorem resV_cells (L : List zO) : ∀ e ∈ L.map resV, e.cells.length = 3 := fun e he => by
  obtain ⟨r, _, rfl⟩ := List.mem_map.1 he
  rfl
theorem do_ret (L : List zO) (i : Nat) (r : zO) (hr : L[i]? = some r) (hL : L.length ≤ 1000000) (kind cell a b : Int) (data : PV) :
    FnE Tryz.prog 32 [.p (xP kind cell a b data), .ptr 1000 0, .ptr 1001 0] (DoB L i) (.ret (.p (resV r))) (DoB L (i + 1)) := by
  have hi : i < L.length := (List.getElem?_eq_some_iff.1 hr).1
  have g1 : decide ((i : Int) = ((L.map resV).length : Int)) = false := decide_eq_false (by simp; omega)
  have g2 : IntKind.i64.wrap ((i : Int) + 1) = ((i + 1 : Nat) : Int) := by rw [wrap_i64 _ (by omega)]; omega
  have g3 : IntKind.i64.wrap (((i + 1 : Nat) : Int) - 1) = (i : Int) := by rw [wrap_i64 _ (by omega)]; omega
  have g4 := resV_cells L
  have g5 : (L.map resV)[i]? = some (resV r) := by rw [List.getElem?_map, hr]; rfl
  refine yS Tryz.func32 rfl Tryz.ntmps32 (Nat.le_of_ble_eq_true rfl) (by decide) ?_
  repeat' ((refine zX.is ?_; first | refine zX.seq ?_ | (refine zX.isR (id := 0) ?_; refine zX.zV [0, 1, 2] [3, 4, 1000, 1001] (by repeat' first | exact zY.nil | apply zY.p rfl | apply zY.ptr rfl) (by repeat' first | exact zW.nil | apply zW.boxP rfl rfl | apply zW.skip) ?_; (refine zZ.m rfl rfl (z8 rfl rfl rfl (by decide)) ?_); (refine zZ.m rfl rfl (zC rfl (by decide) rfl (by decide)) ?_); refine zZ.nil ?_) | (refine zX.isR (id := 1) ?_; refine zX.zV [1, 2, 3, 4] [3, 4, 1000, 1001] (by repeat' first | exact zY.nil | apply zY.ptr rfl) (by repeat' first | exact zW.nil | apply zW.boxP rfl rfl) ?_; (refine zZ.v rfl rfl (zA rfl rfl rfl (by rfl) rfl (by decide)) ?_); (refine zZ.v rfl rfl (zA rfl rfl rfl (by rfl) rfl (by decide)) ?_); (refine zZ.v rfl rfl (xE rfl rfl rfl (by decide)) ?_); (refine zZ.v rfl rfl (by exact yQ rfl rfl rfl (by exact g1) rfl (by decide)) ?_); refine zZ.nil ?_) | (refine zX.isR (id := 3) ?_; refine zX.zV [1, 2, 4] [3, 4, 1000, 1001] (by repeat' first | exact zY.nil | apply zY.ptr rfl) (by repeat' first | exact zW.nil | apply zW.boxP rfl rfl) ?_; (refine zZ.v rfl rfl (zA rfl rfl rfl (by rfl) rfl (by decide)) ?_); (refine zZ.v rfl rfl (by exact y7 rfl rfl rfl (by exact g2) rfl (by decide)) ?_); (refine zZ.w rfl (by exact zB rfl rfl rfl rfl rfl (by rfl) (by exact Nat.le_of_ble_eq_true rfl) rfl rfl) ?_); refine zZ.nil ?_) | (refine zX.isR (id := 4) ?_; refine zX.zV [1, 2, 4] [3, 4, 1000, 1001] (by repeat' first | exact zY.nil | apply zY.ptr rfl) (by repeat' first | exact zW.nil | apply zW.boxP rfl rfl) ?_; (refine zZ.v rfl rfl (zA rfl rfl rfl (by rfl) rfl (by decide)) ?_); (refine zZ.v rfl rfl (zA rfl rfl rfl (by rfl) rfl (by decide)) ?_); (refine zZ.v rfl rfl (by exact a_sub rfl rfl rfl (by exact g3) rfl (by decide)) ?_); (refine zZ.v rfl rfl (by exact y8 rfl rfl rfl (by exact g4) (by exact g5) rfl (by decide)) ?_); (refine zZ.v rfl rfl (by exact wE rfl rfl (by exact Nat.le_of_ble_eq_true rfl) rfl (by decide)) ?_); (refine zZ.w rfl (by exact zB rfl rfl rfl rfl rfl (by rfl) (by exact Nat.le_of_ble_eq_true rfl) rfl rfl) ?_); refine zZ.nil ?_) | refine zX.yG rfl (by first | assumption | with_reducible rfl) ?_ | refine zX.skip ?_ | refine zX.ret ?_))
  all_goals exact ⟨.inl rfl, _, Sub.refl _, .p (r := .cell 4 85) rfl (.cellN rfl rfl (by rfl) (by rfl)), yV (by repeat' first | exact trivial | rfl | constructor)⟩
/-- what is panicked with: the access that isn't told -/
def needA (acc : PV) : AV := .p (.ifc 91 acc)
theorem do_pan (L : List zO) (_ : L.length ≤ 1000000) (kind cell a b : Int) (data : PV) :
    FnE Tryz.prog 32 [.p (xP kind cell a b data), .ptr 1000 0, .ptr 1001 0] (DoB L L.length) (.pan (needA (xP kind cell a b data))) (DoB L L.length) := by
  have g1 : decide ((L.length : Int) = ((L.map resV).length : Int)) = true := decide_eq_true (by simp)
  refine yS Tryz.func32 rfl Tryz.ntmps32 (Nat.le_of_ble_eq_true rfl) (by decide) ?_
  repeat' (first | (refine zZ.ofT rfl (zM.panic rfl rfl ?_)) | (refine zX.is ?_; first | refine zX.seq ?_ | (refine zX.isR (id := 0) ?_; refine zX.zV [0, 1, 2] [3, 4, 1000, 1001] (by repeat' first | exact zY.nil | apply zY.p rfl | apply zY.ptr rfl) (by repeat' first | exact zW.nil | apply zW.boxP rfl rfl | apply zW.skip) ?_; (refine zZ.m rfl rfl (z8 rfl rfl rfl (by decide)) ?_); (refine zZ.m rfl rfl (zC rfl (by decide) rfl (by decide)) ?_); refine zZ.nil ?_) | (refine zX.isR (id := 1) ?_; refine zX.zV [1, 2, 3, 4] [3, 4, 1000, 1001] (by repeat' first | exact zY.nil | apply zY.ptr rfl) (by repeat' first | exact zW.nil | apply zW.boxP rfl rfl) ?_; (refine zZ.v rfl rfl (zA rfl rfl rfl (by rfl) rfl (by decide)) ?_); (refine zZ.v rfl rfl (zA rfl rfl rfl (by rfl) rfl (by decide)) ?_); (refine zZ.v rfl rfl (xE rfl rfl rfl (by decide)) ?_); (refine zZ.v rfl rfl (by exact yQ rfl rfl rfl (by exact g1) rfl (by decide)) ?_); refine zZ.nil ?_) | (refine zX.isR (id := 2) ?_; refine zX.zV [1, 2, 3, 4] [3, 4, 1000, 1001] (by repeat' first | exact zY.nil | apply zY.ptr rfl) (by repeat' first | exact zW.nil | apply zW.boxP rfl rfl) ?_; all_goals (refine zZ.v rfl rfl (zI rfl rfl rfl (by rfl) (by rfl) rfl (by decide)) ?_); all_goals (refine zZ.v rfl rfl (zS rfl (by rfl) (by rfl) (by rfl) (by rfl) rfl (by decide)) ?_); all_goals (refine zZ.v rfl rfl (by exact w_iface (by kernel_rfl) rfl rfl rfl (by decide)) ?_); all_goals (skip)) | refine zX.yE rfl (by with_reducible rfl) ?_))
  all_goals exact ⟨rfl, rfl, yV (by repeat' first | exact trivial | rfl | constructor)⟩
end Go.Proofs.YtlfkofkdigmnpaaGreatDoor
/- play's accesses, over a log: contracts. -/
namespace Go.Proofs.YtlfkofkdigmnpaaGreatDoor
set_option maxRecDepth 100000
set_option maxHeartbeats 16000000
open Go Go.RowKit
set_option linter.unusedSimpArgs false
attribute [local irreducible] zZ zX Step zG Sub zP zM Fn
theorem load_ret (L : List zO) (i : Nat) (r : zO) (hr : L[i]? = some r) (hL : L.length ≤ 1000000) (c : Int) : FnE Tryz.prog 37 [doA, .p (.val (.int .i64 c))] (DoB L i) (.ret (.p (.val (.int .u64 r.n)))) (DoB L (i + 1)) := by
  refine yS Tryz.func37 rfl Tryz.ntmps37 (Nat.le_of_ble_eq_true rfl) (by decide) ?_
  repeat' ((refine zX.is ?_; first | refine zX.seq ?_ | (refine zX.isR (id := 0) ?_; refine zX.zV [0, 1] [1000, 1001] (by repeat' first | exact zY.nil | apply zY.p rfl | apply zY.clo rfl) (by repeat' first | exact zW.nil | apply zW.boxP rfl rfl) ?_; (refine zZ.v rfl rfl (zK rfl rfl rfl (by decide)) ?_); refine zZ.nil ?_) | (refine zX.isR (id := 1) ?_; refine zX.zV [0, 1, 4] [1000, 1001] (by repeat' first | exact zY.nil | apply zY.p rfl | apply zY.clo rfl) (by repeat' first | exact zW.nil | apply zW.boxP rfl rfl) ?_; (refine zZ.v rfl rfl (zU rfl rfl rfl (by decide)) ?_); (refine zZ.v rfl rfl (zQ rfl rfl rfl (by decide)) ?_); (refine zZ.v rfl rfl (zS rfl (by rfl) (by rfl) (by rfl) (by rfl) rfl (by decide)) ?_); (refine zZ.ofT rfl (zM.xA [1000, 1001] (do_ret L i r hr hL 0 c 0 0 yD) rfl (by decide) (yF rfl rfl) (by rfl) (zD (by decide) rfl (by repeat' first | exact trivial | rfl | constructor)) rfl rfl rfl rfl ?_)); (refine zZ.v rfl rfl (w_field1 rfl rfl rfl rfl (by decide)) ?_); (refine zZ.v rfl rfl (zK rfl rfl rfl (by decide)) ?_); refine zZ.nil ?_) | refine zX.ret ?_))
  all_goals exact ⟨(by exact .inl rfl), _, Sub.refl _, .one rfl rfl, yV (by repeat' first | exact trivial | rfl | constructor)⟩
theorem load_pan (L : List zO) (hL : L.length ≤ 1000000) (c : Int) : FnE Tryz.prog 37 [doA, .p (.val (.int .i64 c))] (DoB L L.length) (.pan (needA (xP 0 c 0 0 yD))) (DoB L L.length) := by
  refine yS Tryz.func37 rfl Tryz.ntmps37 (Nat.le_of_ble_eq_true rfl) (by decide) ?_
  repeat' (first | (refine zZ.is ?_; first | refine zZ.v rfl rfl (by first | exact zS rfl (by rfl) (by rfl) (by rfl) (by rfl) rfl (by decide) | exact zQ rfl rfl rfl (by decide) | exact zU rfl rfl rfl (by decide)) ?_ | refine zZ.ofT rfl (zM.ePan [1000, 1001] (do_pan L hL 0 c 0 0 yD) (yF rfl rfl) (by rfl) (zD (by decide) rfl (by repeat' first | exact trivial | rfl | constructor)) rfl rfl rfl rfl ?_)) | (refine zX.is ?_; first | refine zX.seq ?_ | (refine zX.isR (id := 0) ?_; refine zX.zV [0, 1] [1000, 1001] (by repeat' first | exact zY.nil | apply zY.p rfl | apply zY.clo rfl) (by repeat' first | exact zW.nil | apply zW.boxP rfl rfl) ?_; (refine zZ.v rfl rfl (zK rfl rfl rfl (by decide)) ?_); refine zZ.nil ?_) | (refine zX.isR (id := 1) ?_; refine zX.zV [0, 1, 4] [1000, 1001] (by repeat' first | exact zY.nil | apply zY.p rfl | apply zY.clo rfl) (by repeat' first | exact zW.nil | apply zW.boxP rfl rfl) ?_)))
  all_goals exact ⟨rfl, rfl, yV (by repeat' first | exact trivial | rfl | constructor)⟩
theorem store_ret (L : List zO) (i : Nat) (r : zO) (hr : L[i]? = some r) (hL : L.length ≤ 1000000) (c : Int) (v : Int) : FnE Tryz.prog 35 [doA, .p (.val (.int .i64 c)), .p (.val (.int .u64 v))] (DoB L i) (.ret .any) (DoB L (i + 1)) := by
  refine yS Tryz.func35 rfl Tryz.ntmps35 (Nat.le_of_ble_eq_true rfl) (by decide) ?_
  repeat' ((refine zX.is ?_; (refine zX.isR (id := 0) ?_; refine zX.zV [0, 1, 2] [1000, 1001] (by repeat' first | exact zY.nil | apply zY.p rfl | apply zY.clo rfl) (by repeat' first | exact zW.nil | apply zW.boxP rfl rfl) ?_; (refine zZ.v rfl rfl (zU rfl rfl rfl (by decide)) ?_); (refine zZ.v rfl rfl (zQ rfl rfl rfl (by decide)) ?_); (refine zZ.v rfl rfl (zQ rfl rfl rfl (by decide)) ?_); (refine zZ.v rfl rfl (zS rfl (by rfl) (by rfl) (by rfl) (by rfl) rfl (by decide)) ?_); (refine zZ.ofT rfl (zM.xA [1000, 1001] (do_ret L i r hr hL 1 c v 0 yD) rfl (by decide) (yF rfl rfl) (by rfl) (zD (by decide) rfl (by repeat' first | exact trivial | rfl | constructor)) rfl rfl rfl rfl ?_)); refine zZ.nil ?_)))
  all_goals exact ⟨(by exact .inr rfl), _, Sub.refl _, .none rfl, yV (by repeat' first | exact trivial | rfl | constructor)⟩
theorem store_pan (L : List zO) (hL : L.length ≤ 1000000) (c : Int) (v : Int) : FnE Tryz.prog 35 [doA, .p (.val (.int .i64 c)), .p (.val (.int .u64 v))] (DoB L L.length) (.pan (needA (xP 1 c v 0 yD))) (DoB L L.length) := by
  refine yS Tryz.func35 rfl Tryz.ntmps35 (Nat.le_of_ble_eq_true rfl) (by decide) ?_
  repeat' (first | (refine zZ.is ?_; first | refine zZ.v rfl rfl (by first | exact zS rfl (by rfl) (by rfl) (by rfl) (by rfl) rfl (by decide) | exact zQ rfl rfl rfl (by decide) | exact zU rfl rfl rfl (by decide)) ?_ | refine zZ.ofT rfl (zM.ePan [1000, 1001] (do_pan L hL 1 c v 0 yD) (yF rfl rfl) (by rfl) (zD (by decide) rfl (by repeat' first | exact trivial | rfl | constructor)) rfl rfl rfl rfl ?_)) | (refine zX.is ?_; (refine zX.isR (id := 0) ?_; refine zX.zV [0, 1, 2] [1000, 1001] (by repeat' first | exact zY.nil | apply zY.p rfl | apply zY.clo rfl) (by repeat' first | exact zW.nil | apply zW.boxP rfl rfl) ?_)))
  all_goals exact ⟨rfl, rfl, yV (by repeat' first | exact trivial | rfl | constructor)⟩
theorem cas_ret (L : List zO) (i : Nat) (r : zO) (hr : L[i]? = some r) (hL : L.length ≤ 1000000) (c : Int) (a : Int) (b : Int) : FnE Tryz.prog 63 [doA, .p (.val (.int .i64 c)), .p (.val (.int .u64 a)), .p (.val (.int .u64 b))] (DoB L i) (.ret (.p (.val (.bool (decide (r.n = 1)))))) (DoB L (i + 1)) := by
  refine yS Tryz.func63 rfl Tryz.ntmps63 (Nat.le_of_ble_eq_true rfl) (by decide) ?_
  repeat' ((refine zX.is ?_; first | refine zX.seq ?_ | (refine zX.isR (id := 0) ?_; refine zX.zV [0, 1, 2, 3] [1000, 1001] (by repeat' first | exact zY.nil | apply zY.p rfl | apply zY.clo rfl) (by repeat' first | exact zW.nil | apply zW.boxP rfl rfl) ?_; (refine zZ.v rfl rfl (zK rfl rfl rfl (by decide)) ?_); refine zZ.nil ?_) | (refine zX.isR (id := 1) ?_; refine zX.zV [0, 1, 2, 3, 8] [1000, 1001] (by repeat' first | exact zY.nil | apply zY.p rfl | apply zY.clo rfl) (by repeat' first | exact zW.nil | apply zW.boxP rfl rfl) ?_; (refine zZ.v rfl rfl (zU rfl rfl rfl (by decide)) ?_); (refine zZ.v rfl rfl (zQ rfl rfl rfl (by decide)) ?_); (refine zZ.v rfl rfl (zQ rfl rfl rfl (by decide)) ?_); (refine zZ.v rfl rfl (zQ rfl rfl rfl (by decide)) ?_); (refine zZ.v rfl rfl (zS rfl (by rfl) (by rfl) (by rfl) (by rfl) rfl (by decide)) ?_); (refine zZ.ofT rfl (zM.xA [1000, 1001] (do_ret L i r hr hL 2 c a b yD) rfl (by decide) (yF rfl rfl) (by rfl) (zD (by decide) rfl (by repeat' first | exact trivial | rfl | constructor)) rfl rfl rfl rfl ?_)); (refine zZ.v rfl rfl (w_field1 rfl rfl rfl rfl (by decide)) ?_); (refine zZ.v rfl rfl (yQ rfl rfl rfl (by rfl) rfl (by decide)) ?_); (refine zZ.v rfl rfl (zK rfl rfl rfl (by decide)) ?_); refine zZ.nil ?_) | refine zX.ret ?_))
  all_goals exact ⟨(by exact .inl rfl), _, Sub.refl _, .one rfl rfl, yV (by repeat' first | exact trivial | rfl | constructor)⟩
theorem cas_pan (L : List zO) (hL : L.length ≤ 1000000) (c : Int) (a : Int) (b : Int) : FnE Tryz.prog 63 [doA, .p (.val (.int .i64 c)), .p (.val (.int .u64 a)), .p (.val (.int .u64 b))] (DoB L L.length) (.pan (needA (xP 2 c a b yD))) (DoB L L.length) := by
  refine yS Tryz.func63 rfl Tryz.ntmps63 (Nat.le_of_ble_eq_true rfl) (by decide) ?_
  repeat' (first | (refine zZ.is ?_; first | refine zZ.v rfl rfl (by first | exact zS rfl (by rfl) (by rfl) (by rfl) (by rfl) rfl (by decide) | exact zQ rfl rfl rfl (by decide) | exact zU rfl rfl rfl (by decide)) ?_ | refine zZ.ofT rfl (zM.ePan [1000, 1001] (do_pan L hL 2 c a b yD) (yF rfl rfl) (by rfl) (zD (by decide) rfl (by repeat' first | exact trivial | rfl | constructor)) rfl rfl rfl rfl ?_)) | (refine zX.is ?_; first | refine zX.seq ?_ | (refine zX.isR (id := 0) ?_; refine zX.zV [0, 1, 2, 3] [1000, 1001] (by repeat' first | exact zY.nil | apply zY.p rfl | apply zY.clo rfl) (by repeat' first | exact zW.nil | apply zW.boxP rfl rfl) ?_; (refine zZ.v rfl rfl (zK rfl rfl rfl (by decide)) ?_); refine zZ.nil ?_) | (refine zX.isR (id := 1) ?_; refine zX.zV [0, 1, 2, 3, 8] [1000, 1001] (by repeat' first | exact zY.nil | apply zY.p rfl | apply zY.clo rfl) (by repeat' first | exact zW.nil | apply zW.boxP rfl rfl) ?_)))
  all_goals exact ⟨rfl, rfl, yV (by repeat' first | exact trivial | rfl | constructor)⟩
theorem add_ret (L : List zO) (i : Nat) (r : zO) (hr : L[i]? = some r) (hL : L.length ≤ 1000000) (c : Int) (v : Int) : FnE Tryz.prog 33 [doA, .p (.val (.int .i64 c)), .p (.val (.int .u64 v))] (DoB L i) (.ret (.p (.val (.int .u64 r.n)))) (DoB L (i + 1)) := by
  refine yS Tryz.func33 rfl Tryz.ntmps33 (Nat.le_of_ble_eq_true rfl) (by decide) ?_
  repeat' ((refine zX.is ?_; first | refine zX.seq ?_ | (refine zX.isR (id := 0) ?_; refine zX.zV [0, 1, 2] [1000, 1001] (by repeat' first | exact zY.nil | apply zY.p rfl | apply zY.clo rfl) (by repeat' first | exact zW.nil | apply zW.boxP rfl rfl) ?_; (refine zZ.v rfl rfl (zK rfl rfl rfl (by decide)) ?_); refine zZ.nil ?_) | (refine zX.isR (id := 1) ?_; refine zX.zV [0, 1, 2, 6] [1000, 1001] (by repeat' first | exact zY.nil | apply zY.p rfl | apply zY.clo rfl) (by repeat' first | exact zW.nil | apply zW.boxP rfl rfl) ?_; (refine zZ.v rfl rfl (zU rfl rfl rfl (by decide)) ?_); (refine zZ.v rfl rfl (zQ rfl rfl rfl (by decide)) ?_); (refine zZ.v rfl rfl (zQ rfl rfl rfl (by decide)) ?_); (refine zZ.v rfl rfl (zS rfl (by rfl) (by rfl) (by rfl) (by rfl) rfl (by decide)) ?_); (refine zZ.ofT rfl (zM.xA [1000, 1001] (do_ret L i r hr hL 3 c v 0 yD) rfl (by decide) (yF rfl rfl) (by rfl) (zD (by decide) rfl (by repeat' first | exact trivial | rfl | constructor)) rfl rfl rfl rfl ?_)); (refine zZ.v rfl rfl (w_field1 rfl rfl rfl rfl (by decide)) ?_); (refine zZ.v rfl rfl (zK rfl rfl rfl (by decide)) ?_); refine zZ.nil ?_) | refine zX.ret ?_))
  all_goals exact ⟨(by exact .inl rfl), _, Sub.refl _, .one rfl rfl, yV (by repeat' first | exact trivial | rfl | constructor)⟩
theorem add_pan (L : List zO) (hL : L.length ≤ 1000000) (c : Int) (v : Int) : FnE Tryz.prog 33 [doA, .p (.val (.int .i64 c)), .p (.val (.int .u64 v))] (DoB L L.length) (.pan (needA (xP 3 c v 0 yD))) (DoB L L.length) := by
  refine yS Tryz.func33 rfl Tryz.ntmps33 (Nat.le_of_ble_eq_true rfl) (by decide) ?_
  repeat' (first | (refine zZ.is ?_; first | refine zZ.v rfl rfl (by first | exact zS rfl (by rfl) (by rfl) (by rfl) (by rfl) rfl (by decide) | exact zQ rfl rfl rfl (by decide) | exact zU rfl rfl rfl (by decide)) ?_ | refine zZ.ofT rfl (zM.ePan [1000, 1001] (do_pan L hL 3 c v 0 yD) (yF rfl rfl) (by rfl) (zD (by decide) rfl (by repeat' first | exact trivial | rfl | constructor)) rfl rfl rfl rfl ?_)) | (refine zX.is ?_; first | refine zX.seq ?_ | (refine zX.isR (id := 0) ?_; refine zX.zV [0, 1, 2] [1000, 1001] (by repeat' first | exact zY.nil | apply zY.p rfl | apply zY.clo rfl) (by repeat' first | exact zW.nil | apply zW.boxP rfl rfl) ?_; (refine zZ.v rfl rfl (zK rfl rfl rfl (by decide)) ?_); refine zZ.nil ?_) | (refine zX.isR (id := 1) ?_; refine zX.zV [0, 1, 2, 6] [1000, 1001] (by repeat' first | exact zY.nil | apply zY.p rfl | apply zY.clo rfl) (by repeat' first | exact zW.nil | apply zW.boxP rfl rfl) ?_)))
  all_goals exact ⟨rfl, rfl, yV (by repeat' first | exact trivial | rfl | constructor)⟩
end Go.Proofs.YtlfkofkdigmnpaaGreatDoor
/- The document's log that is gone through: contracts of Cur's methods. -/
namespace Go.Proofs.YtlfkofkdigmnpaaGreatDoor
set_option maxRecDepth 100000
set_option maxHeartbeats 16000000
open Go Go.RowKit
set_option linter.unusedSimpArgs false
attribute [local irreducible] zZ zX Step zG Sub zP zM Fn
/-- an access, as it is kept -/
structure Ned where
  kind : Int
  cell : Int
  a : Int
  b : Int
  d : PV
  w : PV
def vH (L : List zO) (i : Nat) (stop : Bool) (q : Ned) : Blk :=
  .box 72 [.p (logV L), .p (.val (.int .i64 i)), .p (.val (.bool stop)), .p (.val (.int .i64 q.kind)), .p (.val (.int .i64 q.cell)), .p (.val (.int .u64 q.a)), .p (.val (.int .u64 q.b)), .p q.d, .p q.w]
def xB (kind cell a b : Int) (d : PV) : Ned := ⟨kind, cell, a, b, d, yD⟩
def zeroRes : PV := .agg [.val (.int .u64 0), .val (.slice none 0 0), .val (.bool false)]
theorem cdo_ret (L : List zO) (i : Nat) (r : zO) (q : Ned) (hr : L[i]? = some r) (hL : L.length ≤ 1000000) (kind cell a b : Int) (data : PV) :
    FnE Tryz.prog 68 [.ptr 1000 0, .p (xP kind cell a b data)] [vH L i false q] (.ret (.p (resV r))) [vH L (i + 1) false q] := by
  have hi : i < L.length := (List.getElem?_eq_some_iff.1 hr).1
  have g1 : decide ((i : Int) < ((L.map resV).length : Int)) = true := decide_eq_true (by simp; omega)
  have g2 : IntKind.i64.wrap ((i : Int) + 1) = ((i + 1 : Nat) : Int) := by rw [wrap_i64 _ (by omega)]; omega
  have g3 : IntKind.i64.wrap (((i + 1 : Nat) : Int) - 1) = (i : Int) := by rw [wrap_i64 _ (by omega)]; omega
  have g4 := resV_cells L
  have g5 : (L.map resV)[i]? = some (resV r) := by rw [List.getElem?_map, hr]; rfl
  refine yS Tryz.func68 rfl Tryz.ntmps68 (Nat.le_of_ble_eq_true rfl) (by decide) ?_
  repeat' (first | (refine zX.is ?_; first | refine zX.seq ?_ | (refine zX.isR (id := 0) ?_; refine zX.zV [0, 1] [3, 4, 1000] (by repeat' first | exact zY.nil | apply zY.p rfl | apply zY.ptr rfl) (by repeat' first | exact zW.nil | apply zW.boxP rfl rfl | apply zW.skip) ?_; (refine zZ.m rfl rfl (z8 rfl rfl rfl (by decide)) ?_); (refine zZ.m rfl rfl (zC rfl (by decide) rfl (by decide)) ?_); refine zZ.nil ?_) | (refine zX.isR (id := 1) ?_; refine zX.zV [0, 3, 4] [3, 4, 1000] (by repeat' first | exact zY.nil | apply zY.ptr rfl) (by repeat' first | exact zW.nil | apply zW.boxP rfl rfl) ?_; (refine zZ.v rfl rfl (yZ rfl rfl rfl (by decide)) ?_); (refine zZ.v rfl rfl (wY rfl rfl rfl (by decide)) ?_); (refine zZ.v rfl rfl (zJ rfl rfl rfl (by decide)) ?_); (refine zZ.v rfl rfl (zA rfl rfl rfl (by rfl) rfl (by decide)) ?_); refine zZ.nil ?_) | (refine zX.isR (id := 3) ?_; refine zX.yA [0, 3, 4] [3, 4, 1000] (by repeat' first | exact zY.nil | apply zY.ptr rfl) (by repeat' first | exact zW.nil | apply zW.boxP rfl rfl) (zX.draws ?_); all_goals (refine Draws.v rfl rfl (yZ rfl rfl rfl (by decide)) ?_); all_goals (refine Draws.v rfl rfl (wY rfl rfl rfl (by decide)) ?_); all_goals (refine Draws.v rfl rfl (zJ rfl rfl rfl (by decide)) ?_); all_goals (refine Draws.v rfl rfl (zA rfl rfl rfl (by rfl) rfl (by decide)) ?_); all_goals (refine Draws.v rfl rfl (yZ rfl rfl rfl (by decide)) ?_); all_goals (refine Draws.v rfl rfl (wY rfl rfl rfl (by decide)) ?_); all_goals (refine Draws.v rfl rfl (zJ rfl rfl rfl (by decide)) ?_); all_goals (refine Draws.v rfl rfl (zA rfl rfl rfl (by rfl) rfl (by decide)) ?_); all_goals (refine Draws.v rfl rfl (xE rfl rfl rfl (by decide)) ?_); all_goals (refine Draws.v rfl rfl (by exact yL rfl rfl rfl (by exact g1) rfl (by decide)) ?_); all_goals ((refine Draws.done (by kernel_rfl) (by kernel_rfl) (by kernel_rfl) ?_; refine zP.nil ?_))) | (refine zX.isR (id := 4) ?_; refine zX.zV [0, 3, 4] [3, 4, 1000] (by repeat' first | exact zY.nil | apply zY.ptr rfl) (by repeat' first | exact zW.nil | apply zW.boxP rfl rfl) ?_; (refine zZ.v rfl rfl (yZ rfl rfl rfl (by decide)) ?_); (refine zZ.v rfl rfl (yZ rfl rfl rfl (by decide)) ?_); (refine zZ.v rfl rfl (wY rfl rfl rfl (by decide)) ?_); (refine zZ.v rfl rfl (zJ rfl rfl rfl (by decide)) ?_); (refine zZ.v rfl rfl (zA rfl rfl rfl (by rfl) rfl (by decide)) ?_); (refine zZ.v rfl rfl (by exact y7 rfl rfl rfl (by exact g2) rfl (by decide)) ?_); (refine zZ.v rfl rfl (wY rfl rfl rfl (by decide)) ?_); (refine zZ.v rfl rfl (zJ rfl rfl rfl (by decide)) ?_); (refine zZ.w rfl (by exact zB rfl rfl rfl rfl rfl (by rfl) (by exact Nat.le_of_ble_eq_true rfl) rfl rfl) ?_); refine zZ.nil ?_) | (refine zX.isR (id := 5) ?_; refine zX.yA [0, 3, 4] [3, 4, 1000] (by repeat' first | exact zY.nil | apply zY.ptr rfl) (by repeat' first | exact zW.nil | apply zW.boxP rfl rfl) (zX.draws ?_); all_goals (refine Draws.v rfl rfl (yZ rfl rfl rfl (by decide)) ?_); all_goals (refine Draws.v rfl rfl (wY rfl rfl rfl (by decide)) ?_); all_goals (refine Draws.v rfl rfl (zJ rfl rfl rfl (by decide)) ?_); all_goals (refine Draws.v rfl rfl (zA rfl rfl rfl (by rfl) rfl (by decide)) ?_); all_goals (refine Draws.v rfl rfl (yZ rfl rfl rfl (by decide)) ?_); all_goals (refine Draws.v rfl rfl (wY rfl rfl rfl (by decide)) ?_); all_goals (refine Draws.v rfl rfl (zJ rfl rfl rfl (by decide)) ?_); all_goals (refine Draws.v rfl rfl (zA rfl rfl rfl (by rfl) rfl (by decide)) ?_); all_goals (refine Draws.v rfl rfl (by exact a_sub rfl rfl rfl (by exact g3) rfl (by decide)) ?_); all_goals (refine Draws.v rfl rfl (by exact y8 rfl rfl rfl (by exact g4) (by exact g5) rfl (by decide)) ?_); all_goals (refine Draws.v rfl rfl (by exact wE rfl rfl (by exact Nat.le_of_ble_eq_true rfl) rfl (by decide)) ?_); all_goals ((refine Draws.done (by kernel_rfl) (by kernel_rfl) (by kernel_rfl) ?_; refine zP.w rfl (by exact zB rfl rfl rfl rfl rfl (by rfl) (by exact Nat.le_of_ble_eq_true rfl) rfl rfl) ?_)); all_goals (refine zP.nil ?_)) | refine zX.yE rfl (by first | assumption | with_reducible rfl) ?_ | refine zX.yG rfl (by with_reducible rfl) ?_ | refine zX.skip ?_ | refine zX.ret ?_) | refine yJ.r ?_)
  all_goals exact ⟨(by exact .inl rfl), _, Sub.refl _, .p (r := .cell 4 85) rfl (.cellN rfl rfl (by rfl) (by rfl)), yV (by repeat' first | exact trivial | rfl | constructor)⟩
theorem cdo_end (L : List zO) (q : Ned) (_ : L.length ≤ 1000000) (kind cell a b : Int) (data : PV) :
    FnE Tryz.prog 68 [.ptr 1000 0, .p (xP kind cell a b data)] [vH L L.length false q] (.ret (.p zeroRes)) [vH L L.length true (xB kind cell a b data)] := by
  have g1 : decide ((L.length : Int) < ((L.map resV).length : Int)) = false := decide_eq_false (by simp)
  refine yS Tryz.func68 rfl Tryz.ntmps68 (Nat.le_of_ble_eq_true rfl) (by decide) ?_
  repeat' ((refine zX.is ?_; first | refine zX.seq ?_ | (refine zX.isR (id := 0) ?_; refine zX.zV [0, 1] [3, 4, 1000] (by repeat' first | exact zY.nil | apply zY.p rfl | apply zY.ptr rfl) (by repeat' first | exact zW.nil | apply zW.boxP rfl rfl | apply zW.skip) ?_; (refine zZ.m rfl rfl (z8 rfl rfl rfl (by decide)) ?_); (refine zZ.m rfl rfl (zC rfl (by decide) rfl (by decide)) ?_); refine zZ.nil ?_) | (refine zX.isR (id := 1) ?_; refine zX.zV [0, 3, 4] [3, 4, 1000] (by repeat' first | exact zY.nil | apply zY.ptr rfl) (by repeat' first | exact zW.nil | apply zW.boxP rfl rfl) ?_; (refine zZ.v rfl rfl (yZ rfl rfl rfl (by decide)) ?_); (refine zZ.v rfl rfl (wY rfl rfl rfl (by decide)) ?_); (refine zZ.v rfl rfl (zJ rfl rfl rfl (by decide)) ?_); (refine zZ.v rfl rfl (zA rfl rfl rfl (by rfl) rfl (by decide)) ?_); refine zZ.nil ?_) | (refine zX.isR (id := 3) ?_; refine zX.yA [0, 3, 4] [3, 4, 1000] (by repeat' first | exact zY.nil | apply zY.ptr rfl) (by repeat' first | exact zW.nil | apply zW.boxP rfl rfl) (zX.draws ?_); all_goals (refine Draws.v rfl rfl (yZ rfl rfl rfl (by decide)) ?_); all_goals (refine Draws.v rfl rfl (wY rfl rfl rfl (by decide)) ?_); all_goals (refine Draws.v rfl rfl (zJ rfl rfl rfl (by decide)) ?_); all_goals (refine Draws.v rfl rfl (zA rfl rfl rfl (by rfl) rfl (by decide)) ?_); all_goals (refine Draws.v rfl rfl (yZ rfl rfl rfl (by decide)) ?_); all_goals (refine Draws.v rfl rfl (wY rfl rfl rfl (by decide)) ?_); all_goals (refine Draws.v rfl rfl (zJ rfl rfl rfl (by decide)) ?_); all_goals (refine Draws.v rfl rfl (zA rfl rfl rfl (by rfl) rfl (by decide)) ?_); all_goals (refine Draws.v rfl rfl (xE rfl rfl rfl (by decide)) ?_); all_goals (refine Draws.v rfl rfl (by exact yL rfl rfl rfl (by exact g1) rfl (by decide)) ?_); all_goals ((refine Draws.done (by kernel_rfl) (by kernel_rfl) (by kernel_rfl) ?_; refine zP.nil ?_))) | (refine zX.isR (id := 6) ?_; refine zX.zV [0, 3, 4] [3, 4, 1000] (by repeat' first | exact zY.nil | apply zY.ptr rfl) (by repeat' first | exact zW.nil | apply zW.boxP rfl rfl) ?_; (refine zZ.v rfl rfl (yZ rfl rfl rfl (by decide)) ?_); (refine zZ.v rfl rfl (wY rfl rfl rfl (by decide)) ?_); (refine zZ.v rfl rfl (zJ rfl rfl rfl (by decide)) ?_); (refine zZ.w rfl (by exact zB rfl rfl rfl rfl rfl (by rfl) (by exact Nat.le_of_ble_eq_true rfl) rfl rfl) ?_); refine zZ.nil ?_) | (refine zX.isR (id := 7) ?_; refine zX.zV [0, 3, 4] [3, 4, 1000] (by repeat' first | exact zY.nil | apply zY.ptr rfl) (by repeat' first | exact zW.nil | apply zW.boxP rfl rfl) ?_; (refine zZ.v rfl rfl (yZ rfl rfl rfl (by decide)) ?_); (refine zZ.v rfl rfl (zI rfl rfl rfl (by rfl) (by rfl) rfl (by decide)) ?_); (refine zZ.v rfl rfl (wY rfl rfl rfl (by decide)) ?_); (refine zZ.v rfl rfl (zJ rfl rfl rfl (by decide)) ?_); (refine zZ.w rfl (by exact zB rfl rfl rfl rfl rfl (by rfl) (by exact Nat.le_of_ble_eq_true rfl) rfl rfl) ?_); refine zZ.nil ?_) | (refine zX.isR (id := 8) ?_; refine zX.zV [4] [3, 4, 1000] (by repeat' first | exact zY.nil | apply zY.ptr rfl) (by repeat' first | exact zW.nil | apply zW.boxP rfl rfl) ?_; (refine zZ.v rfl rfl (zS rfl (by rfl) (by rfl) (by rfl) (by rfl) rfl (by decide)) ?_); (refine zZ.w rfl (by exact zB rfl rfl rfl rfl rfl (by rfl) (by exact Nat.le_of_ble_eq_true rfl) rfl rfl) ?_); refine zZ.nil ?_) | refine zX.yG rfl (by first | assumption | with_reducible rfl) ?_ | refine zX.skip ?_ | refine zX.ret ?_))
  all_goals exact ⟨(by exact .inl rfl), _, Sub.refl _, .p (r := .cell 4 85) rfl (.cellN rfl rfl (by rfl) (by rfl)), yV (by repeat' first | exact trivial | rfl | constructor)⟩
theorem cdo_stop (L : List zO) (i : Nat) (q : Ned) (kind cell a b : Int) (data : PV) :
    FnE Tryz.prog 68 [.ptr 1000 0, .p (xP kind cell a b data)] [vH L i true q] (.ret (.p zeroRes)) [vH L i true q] := by
  refine yS Tryz.func68 rfl Tryz.ntmps68 (Nat.le_of_ble_eq_true rfl) (by decide) ?_
  repeat' (first | (refine zX.is ?_; first | refine zX.seq ?_ | (refine zX.isR (id := 0) ?_; refine zX.zV [0, 1] [3, 4, 1000] (by repeat' first | exact zY.nil | apply zY.p rfl | apply zY.ptr rfl) (by repeat' first | exact zW.nil | apply zW.boxP rfl rfl | apply zW.skip) ?_; (refine zZ.m rfl rfl (z8 rfl rfl rfl (by decide)) ?_); (refine zZ.m rfl rfl (zC rfl (by decide) rfl (by decide)) ?_); refine zZ.nil ?_) | (refine zX.isR (id := 1) ?_; refine zX.zV [0, 3, 4] [3, 4, 1000] (by repeat' first | exact zY.nil | apply zY.ptr rfl) (by repeat' first | exact zW.nil | apply zW.boxP rfl rfl) ?_; (refine zZ.v rfl rfl (yZ rfl rfl rfl (by decide)) ?_); (refine zZ.v rfl rfl (wY rfl rfl rfl (by decide)) ?_); (refine zZ.v rfl rfl (zJ rfl rfl rfl (by decide)) ?_); (refine zZ.v rfl rfl (zA rfl rfl rfl rfl rfl (by decide)) ?_); refine zZ.nil ?_) | (refine zX.isR (id := 2) ?_; refine zX.zV [0, 3, 4] [3, 4, 1000] (by repeat' first | exact zY.nil | apply zY.ptr rfl) (by repeat' first | exact zW.nil | apply zW.boxP rfl rfl) ?_; (refine zZ.v rfl rfl (zS rfl (by rfl) (by rfl) (by rfl) (by rfl) rfl (by decide)) ?_); (refine zZ.w rfl (by exact zB rfl rfl rfl rfl rfl (by rfl) (by exact Nat.le_of_ble_eq_true rfl) rfl rfl) ?_); refine zZ.nil ?_) | refine zX.yE rfl (by with_reducible rfl) ?_ | refine zX.ret ?_) | refine yJ.r ?_)
  all_goals exact ⟨(by exact .inl rfl), _, Sub.refl _, .p (r := .cell 4 85) rfl (.cellN rfl rfl (by rfl) (by rfl)), yV (by repeat' first | exact trivial | rfl | constructor)⟩
theorem cload_ret (L : List zO) (i : Nat) (r : zO) (q : Ned) (hr : L[i]? = some r) (hL : L.length ≤ 1000000) (c : Int) : FnE Tryz.prog 50 [.ptr 1000 0, .p (.val (.int .i64 c))] [vH L i false q] (.ret (.p (.val (.int .u64 r.n)))) [vH L (i + 1) false q] := by
  refine yS Tryz.func50 rfl Tryz.ntmps50 (Nat.le_of_ble_eq_true rfl) (by decide) ?_
  repeat' ((refine zX.is ?_; first | refine zX.seq ?_ | (refine zX.isR (id := 0) ?_; refine zX.zV [0, 1] [5, 1000] (by repeat' first | exact zY.nil | apply zY.p rfl | apply zY.ptr rfl) (by repeat' first | exact zW.nil | apply zW.boxP rfl rfl | apply zW.skip) ?_; (refine zZ.v rfl rfl (zK rfl rfl rfl (by decide)) ?_); refine zZ.nil ?_) | (refine zX.isR (id := 1) ?_; refine zX.zV [0, 1, 4] [5, 1000] (by repeat' first | exact zY.nil | apply zY.p rfl | apply zY.ptr rfl) (by repeat' first | exact zW.nil | apply zW.boxP rfl rfl | apply zW.skip) ?_; (refine zZ.v rfl rfl (yZ rfl rfl rfl (by decide)) ?_); (refine zZ.v rfl rfl (zQ rfl rfl rfl (by decide)) ?_); (refine zZ.v rfl rfl (zS rfl (by rfl) (by rfl) (by rfl) (by rfl) rfl (by decide)) ?_); (refine zZ.ofT rfl (zM.xA [1000] (cdo_ret L i r q hr hL 0 c 0 0 yD) rfl (by decide) (zH rfl) (by rfl) (zD (by decide) rfl (by repeat' first | exact trivial | rfl | constructor)) rfl rfl rfl rfl ?_)); (refine zZ.m rfl rfl (zC rfl (by decide) rfl (by decide)) ?_); (refine zZ.w rfl (by exact zB rfl rfl rfl rfl rfl (by rfl) (by exact Nat.le_of_ble_eq_true rfl) rfl rfl) ?_); refine zZ.nil ?_) | (refine zX.isR (id := 2) ?_; refine zX.zV [4, 5] [5, 1000] (by repeat' first | exact zY.nil | apply zY.p rfl | apply zY.ptr rfl) (by repeat' first | exact zW.nil | apply zW.boxP rfl rfl) ?_; (refine zZ.v rfl rfl (zJ rfl rfl rfl (by decide)) ?_); (refine zZ.v rfl rfl (zA rfl rfl rfl rfl rfl (by decide)) ?_); (refine zZ.v rfl rfl (zK rfl rfl rfl (by decide)) ?_); refine zZ.nil ?_) | refine zX.ret ?_))
  all_goals exact ⟨(by exact .inl rfl), _, Sub.refl _, .one rfl rfl, yV (by repeat' first | exact trivial | rfl | constructor)⟩
theorem cload_end (L : List zO) (q : Ned) (hL : L.length ≤ 1000000) (c : Int) : FnE Tryz.prog 50 [.ptr 1000 0, .p (.val (.int .i64 c))] [vH L L.length false q] (.ret (.p (.val (.int .u64 0)))) [vH L L.length true (xB 0 c 0 0 yD)] := by
  refine yS Tryz.func50 rfl Tryz.ntmps50 (Nat.le_of_ble_eq_true rfl) (by decide) ?_
  repeat' ((refine zX.is ?_; first | refine zX.seq ?_ | (refine zX.isR (id := 0) ?_; refine zX.zV [0, 1] [5, 1000] (by repeat' first | exact zY.nil | apply zY.p rfl | apply zY.ptr rfl) (by repeat' first | exact zW.nil | apply zW.boxP rfl rfl | apply zW.skip) ?_; (refine zZ.v rfl rfl (zK rfl rfl rfl (by decide)) ?_); refine zZ.nil ?_) | (refine zX.isR (id := 1) ?_; refine zX.zV [0, 1, 4] [5, 1000] (by repeat' first | exact zY.nil | apply zY.p rfl | apply zY.ptr rfl) (by repeat' first | exact zW.nil | apply zW.boxP rfl rfl | apply zW.skip) ?_; (refine zZ.v rfl rfl (yZ rfl rfl rfl (by decide)) ?_); (refine zZ.v rfl rfl (zQ rfl rfl rfl (by decide)) ?_); (refine zZ.v rfl rfl (zS rfl (by rfl) (by rfl) (by rfl) (by rfl) rfl (by decide)) ?_); (refine zZ.ofT rfl (zM.xA [1000] (cdo_end L q hL 0 c 0 0 yD) rfl (by decide) (zH rfl) (by rfl) (zD (by decide) rfl (by repeat' first | exact trivial | rfl | constructor)) rfl rfl rfl rfl ?_)); (refine zZ.m rfl rfl (zC rfl (by decide) rfl (by decide)) ?_); (refine zZ.w rfl (by exact zB rfl rfl rfl rfl rfl (by rfl) (by exact Nat.le_of_ble_eq_true rfl) rfl rfl) ?_); refine zZ.nil ?_) | (refine zX.isR (id := 2) ?_; refine zX.zV [4, 5] [5, 1000] (by repeat' first | exact zY.nil | apply zY.p rfl | apply zY.ptr rfl) (by repeat' first | exact zW.nil | apply zW.boxP rfl rfl) ?_; (refine zZ.v rfl rfl (zJ rfl rfl rfl (by decide)) ?_); (refine zZ.v rfl rfl (zA rfl rfl rfl rfl rfl (by decide)) ?_); (refine zZ.v rfl rfl (zK rfl rfl rfl (by decide)) ?_); refine zZ.nil ?_) | refine zX.ret ?_))
  all_goals exact ⟨(by exact .inl rfl), _, Sub.refl _, .one rfl rfl, yV (by repeat' first | exact trivial | rfl | constructor)⟩
theorem cload_stop (L : List zO) (i : Nat) (q : Ned) (c : Int) : FnE Tryz.prog 50 [.ptr 1000 0, .p (.val (.int .i64 c))] [vH L i true q] (.ret (.p (.val (.int .u64 0)))) [vH L i true q] := by
  refine yS Tryz.func50 rfl Tryz.ntmps50 (Nat.le_of_ble_eq_true rfl) (by decide) ?_
  repeat' ((refine zX.is ?_; first | refine zX.seq ?_ | (refine zX.isR (id := 0) ?_; refine zX.zV [0, 1] [5, 1000] (by repeat' first | exact zY.nil | apply zY.p rfl | apply zY.ptr rfl) (by repeat' first | exact zW.nil | apply zW.boxP rfl rfl | apply zW.skip) ?_; (refine zZ.v rfl rfl (zK rfl rfl rfl (by decide)) ?_); refine zZ.nil ?_) | (refine zX.isR (id := 1) ?_; refine zX.zV [0, 1, 4] [5, 1000] (by repeat' first | exact zY.nil | apply zY.p rfl | apply zY.ptr rfl) (by repeat' first | exact zW.nil | apply zW.boxP rfl rfl | apply zW.skip) ?_; (refine zZ.v rfl rfl (yZ rfl rfl rfl (by decide)) ?_); (refine zZ.v rfl rfl (zQ rfl rfl rfl (by decide)) ?_); (refine zZ.v rfl rfl (zS rfl (by rfl) (by rfl) (by rfl) (by rfl) rfl (by decide)) ?_); (refine zZ.ofT rfl (zM.xA [1000] (cdo_stop L i q 0 c 0 0 yD) rfl (by decide) (zH rfl) (by rfl) (zD (by decide) rfl (by repeat' first | exact trivial | rfl | constructor)) rfl rfl rfl rfl ?_)); (refine zZ.m rfl rfl (zC rfl (by decide) rfl (by decide)) ?_); (refine zZ.w rfl (by exact zB rfl rfl rfl rfl rfl (by rfl) (by exact Nat.le_of_ble_eq_true rfl) rfl rfl) ?_); refine zZ.nil ?_) | (refine zX.isR (id := 2) ?_; refine zX.zV [4, 5] [5, 1000] (by repeat' first | exact zY.nil | apply zY.p rfl | apply zY.ptr rfl) (by repeat' first | exact zW.nil | apply zW.boxP rfl rfl) ?_; (refine zZ.v rfl rfl (zJ rfl rfl rfl (by decide)) ?_); (refine zZ.v rfl rfl (zA rfl rfl rfl rfl rfl (by decide)) ?_); (refine zZ.v rfl rfl (zK rfl rfl rfl (by decide)) ?_); refine zZ.nil ?_) | refine zX.ret ?_))
  all_goals exact ⟨(by exact .inl rfl), _, Sub.refl _, .one rfl rfl, yV (by repeat' first | exact trivial | rfl | constructor)⟩
theorem cstore_ret (L : List zO) (i : Nat) (r : zO) (q : Ned) (hr : L[i]? = some r) (hL : L.length ≤ 1000000) (c : Int) (v : Int) : FnE Tryz.prog 47 [.ptr 1000 0, .p (.val (.int .i64 c)), .p (.val (.int .u64 v))] [vH L i false q] (.ret .any) [vH L (i + 1) false q] := by
  refine yS Tryz.func47 rfl Tryz.ntmps47 (Nat.le_of_ble_eq_true rfl) (by decide) ?_
  repeat' ((refine zX.is ?_; (refine zX.isR (id := 0) ?_; refine zX.zV [0, 1, 2] [1000] (by repeat' first | exact zY.nil | apply zY.p rfl | apply zY.ptr rfl) (by repeat' first | exact zW.nil | apply zW.boxP rfl rfl) ?_; (refine zZ.v rfl rfl (yZ rfl rfl rfl (by decide)) ?_); (refine zZ.v rfl rfl (zQ rfl rfl rfl (by decide)) ?_); (refine zZ.v rfl rfl (zQ rfl rfl rfl (by decide)) ?_); (refine zZ.v rfl rfl (zS rfl (by rfl) (by rfl) (by rfl) (by rfl) rfl (by decide)) ?_); (refine zZ.ofT rfl (zM.xA [1000] (cdo_ret L i r q hr hL 1 c v 0 yD) rfl (by decide) (zH rfl) (by rfl) (zD (by decide) rfl (by repeat' first | exact trivial | rfl | constructor)) rfl rfl rfl rfl ?_)); refine zZ.nil ?_)))
  all_goals exact ⟨(by exact .inr rfl), _, Sub.refl _, .none rfl, yV (by repeat' first | exact trivial | rfl | constructor)⟩
theorem cstore_end (L : List zO) (q : Ned) (hL : L.length ≤ 1000000) (c : Int) (v : Int) : FnE Tryz.prog 47 [.ptr 1000 0, .p (.val (.int .i64 c)), .p (.val (.int .u64 v))] [vH L L.length false q] (.ret .any) [vH L L.length true (xB 1 c v 0 yD)] := by
  refine yS Tryz.func47 rfl Tryz.ntmps47 (Nat.le_of_ble_eq_true rfl) (by decide) ?_
  repeat' ((refine zX.is ?_; (refine zX.isR (id := 0) ?_; refine zX.zV [0, 1, 2] [1000] (by repeat' first | exact zY.nil | apply zY.p rfl | apply zY.ptr rfl) (by repeat' first | exact zW.nil | apply zW.boxP rfl rfl) ?_; (refine zZ.v rfl rfl (yZ rfl rfl rfl (by decide)) ?_); (refine zZ.v rfl rfl (zQ rfl rfl rfl (by decide)) ?_); (refine zZ.v rfl rfl (zQ rfl rfl rfl (by decide)) ?_); (refine zZ.v rfl rfl (zS rfl (by rfl) (by rfl) (by rfl) (by rfl) rfl (by decide)) ?_); (refine zZ.ofT rfl (zM.xA [1000] (cdo_end L q hL 1 c v 0 yD) rfl (by decide) (zH rfl) (by rfl) (zD (by decide) rfl (by repeat' first | exact trivial | rfl | constructor)) rfl rfl rfl rfl ?_)); refine zZ.nil ?_)))
  all_goals exact ⟨(by exact .inr rfl), _, Sub.refl _, .none rfl, yV (by repeat' first | exact trivial | rfl | constructor)⟩
theorem cstore_stop (L : List zO) (i : Nat) (q : Ned) (c : Int) (v : Int) : FnE Tryz.prog 47 [.ptr 1000 0, .p (.val (.int .i64 c)), .p (.val (.int .u64 v))] [vH L i true q] (.ret .any) [vH L i true q] := by
  refine yS Tryz.func47 rfl Tryz.ntmps47 (Nat.le_of_ble_eq_true rfl) (by decide) ?_
  repeat' ((refine zX.is ?_; (refine zX.isR (id := 0) ?_; refine zX.zV [0, 1, 2] [1000] (by repeat' first | exact zY.nil | apply zY.p rfl | apply zY.ptr rfl) (by repeat' first | exact zW.nil | apply zW.boxP rfl rfl) ?_; (refine zZ.v rfl rfl (yZ rfl rfl rfl (by decide)) ?_); (refine zZ.v rfl rfl (zQ rfl rfl rfl (by decide)) ?_); (refine zZ.v rfl rfl (zQ rfl rfl rfl (by decide)) ?_); (refine zZ.v rfl rfl (zS rfl (by rfl) (by rfl) (by rfl) (by rfl) rfl (by decide)) ?_); (refine zZ.ofT rfl (zM.xA [1000] (cdo_stop L i q 1 c v 0 yD) rfl (by decide) (zH rfl) (by rfl) (zD (by decide) rfl (by repeat' first | exact trivial | rfl | constructor)) rfl rfl rfl rfl ?_)); refine zZ.nil ?_)))
  all_goals exact ⟨(by exact .inr rfl), _, Sub.refl _, .none rfl, yV (by repeat' first | exact trivial | rfl | constructor)⟩
theorem ccas_ret (L : List zO) (i : Nat) (r : zO) (q : Ned) (hr : L[i]? = some r) (hL : L.length ≤ 1000000) (c : Int) (a : Int) (b : Int) : FnE Tryz.prog 54 [.ptr 1000 0, .p (.val (.int .i64 c)), .p (.val (.int .u64 a)), .p (.val (.int .u64 b))] [vH L i false q] (.ret (.p (.val (.bool (decide (r.n = 1)))))) [vH L (i + 1) false q] := by
  refine yS Tryz.func54 rfl Tryz.ntmps54 (Nat.le_of_ble_eq_true rfl) (by decide) ?_
  repeat' ((refine zX.is ?_; first | refine zX.seq ?_ | (refine zX.isR (id := 0) ?_; refine zX.zV [0, 1, 2, 3] [9, 1000] (by repeat' first | exact zY.nil | apply zY.p rfl | apply zY.ptr rfl) (by repeat' first | exact zW.nil | apply zW.boxP rfl rfl | apply zW.skip) ?_; (refine zZ.v rfl rfl (zK rfl rfl rfl (by decide)) ?_); refine zZ.nil ?_) | (refine zX.isR (id := 1) ?_; refine zX.zV [0, 1, 2, 3, 8] [9, 1000] (by repeat' first | exact zY.nil | apply zY.p rfl | apply zY.ptr rfl) (by repeat' first | exact zW.nil | apply zW.boxP rfl rfl | apply zW.skip) ?_; (refine zZ.v rfl rfl (yZ rfl rfl rfl (by decide)) ?_); (refine zZ.v rfl rfl (zQ rfl rfl rfl (by decide)) ?_); (refine zZ.v rfl rfl (zQ rfl rfl rfl (by decide)) ?_); (refine zZ.v rfl rfl (zQ rfl rfl rfl (by decide)) ?_); (refine zZ.v rfl rfl (zS rfl (by rfl) (by rfl) (by rfl) (by rfl) rfl (by decide)) ?_); (refine zZ.ofT rfl (zM.xA [1000] (cdo_ret L i r q hr hL 2 c a b yD) rfl (by decide) (zH rfl) (by rfl) (zD (by decide) rfl (by repeat' first | exact trivial | rfl | constructor)) rfl rfl rfl rfl ?_)); (refine zZ.m rfl rfl (zC rfl (by decide) rfl (by decide)) ?_); (refine zZ.w rfl (by exact zB rfl rfl rfl rfl rfl (by rfl) (by exact Nat.le_of_ble_eq_true rfl) rfl rfl) ?_); refine zZ.nil ?_) | (refine zX.isR (id := 2) ?_; refine zX.zV [8, 9] [9, 1000] (by repeat' first | exact zY.nil | apply zY.p rfl | apply zY.ptr rfl) (by repeat' first | exact zW.nil | apply zW.boxP rfl rfl) ?_; (refine zZ.v rfl rfl (zJ rfl rfl rfl (by decide)) ?_); (refine zZ.v rfl rfl (zA rfl rfl rfl rfl rfl (by decide)) ?_); (refine zZ.v rfl rfl (yQ rfl rfl rfl (by rfl) rfl (by decide)) ?_); (refine zZ.v rfl rfl (zK rfl rfl rfl (by decide)) ?_); refine zZ.nil ?_) | refine zX.ret ?_))
  all_goals exact ⟨(by exact .inl rfl), _, Sub.refl _, .one rfl rfl, yV (by repeat' first | exact trivial | rfl | constructor)⟩
theorem ccas_end (L : List zO) (q : Ned) (hL : L.length ≤ 1000000) (c : Int) (a : Int) (b : Int) : FnE Tryz.prog 54 [.ptr 1000 0, .p (.val (.int .i64 c)), .p (.val (.int .u64 a)), .p (.val (.int .u64 b))] [vH L L.length false q] (.ret (.p (.val (.bool false)))) [vH L L.length true (xB 2 c a b yD)] := by
  refine yS Tryz.func54 rfl Tryz.ntmps54 (Nat.le_of_ble_eq_true rfl) (by decide) ?_
  repeat' ((refine zX.is ?_; first | refine zX.seq ?_ | (refine zX.isR (id := 0) ?_; refine zX.zV [0, 1, 2, 3] [9, 1000] (by repeat' first | exact zY.nil | apply zY.p rfl | apply zY.ptr rfl) (by repeat' first | exact zW.nil | apply zW.boxP rfl rfl | apply zW.skip) ?_; (refine zZ.v rfl rfl (zK rfl rfl rfl (by decide)) ?_); refine zZ.nil ?_) | (refine zX.isR (id := 1) ?_; refine zX.zV [0, 1, 2, 3, 8] [9, 1000] (by repeat' first | exact zY.nil | apply zY.p rfl | apply zY.ptr rfl) (by repeat' first | exact zW.nil | apply zW.boxP rfl rfl | apply zW.skip) ?_; (refine zZ.v rfl rfl (yZ rfl rfl rfl (by decide)) ?_); (refine zZ.v rfl rfl (zQ rfl rfl rfl (by decide)) ?_); (refine zZ.v rfl rfl (zQ rfl rfl rfl (by decide)) ?_); (refine zZ.v rfl rfl (zQ rfl rfl rfl (by decide)) ?_); (refine zZ.v rfl rfl (zS rfl (by rfl) (by rfl) (by rfl) (by rfl) rfl (by decide)) ?_); (refine zZ.ofT rfl (zM.xA [1000] (cdo_end L q hL 2 c a b yD) rfl (by decide) (zH rfl) (by rfl) (zD (by decide) rfl (by repeat' first | exact trivial | rfl | constructor)) rfl rfl rfl rfl ?_)); (refine zZ.m rfl rfl (zC rfl (by decide) rfl (by decide)) ?_); (refine zZ.w rfl (by exact zB rfl rfl rfl rfl rfl (by rfl) (by exact Nat.le_of_ble_eq_true rfl) rfl rfl) ?_); refine zZ.nil ?_) | (refine zX.isR (id := 2) ?_; refine zX.zV [8, 9] [9, 1000] (by repeat' first | exact zY.nil | apply zY.p rfl | apply zY.ptr rfl) (by repeat' first | exact zW.nil | apply zW.boxP rfl rfl) ?_; (refine zZ.v rfl rfl (zJ rfl rfl rfl (by decide)) ?_); (refine zZ.v rfl rfl (zA rfl rfl rfl rfl rfl (by decide)) ?_); (refine zZ.v rfl rfl (by exact yQ rfl rfl rfl (by exact bF (by decide)) rfl (by decide)) ?_); (refine zZ.v rfl rfl (zK rfl rfl rfl (by decide)) ?_); refine zZ.nil ?_) | refine zX.ret ?_))
  all_goals exact ⟨(by exact .inl rfl), _, Sub.refl _, .one rfl rfl, yV (by repeat' first | exact trivial | rfl | constructor)⟩
theorem ccas_stop (L : List zO) (i : Nat) (q : Ned) (c : Int) (a : Int) (b : Int) : FnE Tryz.prog 54 [.ptr 1000 0, .p (.val (.int .i64 c)), .p (.val (.int .u64 a)), .p (.val (.int .u64 b))] [vH L i true q] (.ret (.p (.val (.bool false)))) [vH L i true q] := by
  refine yS Tryz.func54 rfl Tryz.ntmps54 (Nat.le_of_ble_eq_true rfl) (by decide) ?_
  repeat' ((refine zX.is ?_; first | refine zX.seq ?_ | (refine zX.isR (id := 0) ?_; refine zX.zV [0, 1, 2, 3] [9, 1000] (by repeat' first | exact zY.nil | apply zY.p rfl | apply zY.ptr rfl) (by repeat' first | exact zW.nil | apply zW.boxP rfl rfl | apply zW.skip) ?_; (refine zZ.v rfl rfl (zK rfl rfl rfl (by decide)) ?_); refine zZ.nil ?_) | (refine zX.isR (id := 1) ?_; refine zX.zV [0, 1, 2, 3, 8] [9, 1000] (by repeat' first | exact zY.nil | apply zY.p rfl | apply zY.ptr rfl) (by repeat' first | exact zW.nil | apply zW.boxP rfl rfl | apply zW.skip) ?_; (refine zZ.v rfl rfl (yZ rfl rfl rfl (by decide)) ?_); (refine zZ.v rfl rfl (zQ rfl rfl rfl (by decide)) ?_); (refine zZ.v rfl rfl (zQ rfl rfl rfl (by decide)) ?_); (refine zZ.v rfl rfl (zQ rfl rfl rfl (by decide)) ?_); (refine zZ.v rfl rfl (zS rfl (by rfl) (by rfl) (by rfl) (by rfl) rfl (by decide)) ?_); (refine zZ.ofT rfl (zM.xA [1000] (cdo_stop L i q 2 c a b yD) rfl (by decide) (zH rfl) (by rfl) (zD (by decide) rfl (by repeat' first | exact trivial | rfl | constructor)) rfl rfl rfl rfl ?_)); (refine zZ.m rfl rfl (zC rfl (by decide) rfl (by decide)) ?_); (refine zZ.w rfl (by exact zB rfl rfl rfl rfl rfl (by rfl) (by exact Nat.le_of_ble_eq_true rfl) rfl rfl) ?_); refine zZ.nil ?_) | (refine zX.isR (id := 2) ?_; refine zX.zV [8, 9] [9, 1000] (by repeat' first | exact zY.nil | apply zY.p rfl | apply zY.ptr rfl) (by repeat' first | exact zW.nil | apply zW.boxP rfl rfl) ?_; (refine zZ.v rfl rfl (zJ rfl rfl rfl (by decide)) ?_); (refine zZ.v rfl rfl (zA rfl rfl rfl rfl rfl (by decide)) ?_); (refine zZ.v rfl rfl (by exact yQ rfl rfl rfl (by exact bF (by decide)) rfl (by decide)) ?_); (refine zZ.v rfl rfl (zK rfl rfl rfl (by decide)) ?_); refine zZ.nil ?_) | refine zX.ret ?_))
  all_goals exact ⟨(by exact .inl rfl), _, Sub.refl _, .one rfl rfl, yV (by repeat' first | exact trivial | rfl | constructor)⟩
theorem cadd_ret (L : List zO) (i : Nat) (r : zO) (q : Ned) (hr : L[i]? = some r) (hL : L.length ≤ 1000000) (c : Int) (v : Int) : FnE Tryz.prog 46 [.ptr 1000 0, .p (.val (.int .i64 c)), .p (.val (.int .u64 v))] [vH L i false q] (.ret (.p (.val (.int .u64 r.n)))) [vH L (i + 1) false q] := by
  refine yS Tryz.func46 rfl Tryz.ntmps46 (Nat.le_of_ble_eq_true rfl) (by decide) ?_
  repeat' ((refine zX.is ?_; first | refine zX.seq ?_ | (refine zX.isR (id := 0) ?_; refine zX.zV [0, 1, 2] [7, 1000] (by repeat' first | exact zY.nil | apply zY.p rfl | apply zY.ptr rfl) (by repeat' first | exact zW.nil | apply zW.boxP rfl rfl | apply zW.skip) ?_; (refine zZ.v rfl rfl (zK rfl rfl rfl (by decide)) ?_); refine zZ.nil ?_) | (refine zX.isR (id := 1) ?_; refine zX.zV [0, 1, 2, 6] [7, 1000] (by repeat' first | exact zY.nil | apply zY.p rfl | apply zY.ptr rfl) (by repeat' first | exact zW.nil | apply zW.boxP rfl rfl | apply zW.skip) ?_; (refine zZ.v rfl rfl (yZ rfl rfl rfl (by decide)) ?_); (refine zZ.v rfl rfl (zQ rfl rfl rfl (by decide)) ?_); (refine zZ.v rfl rfl (zQ rfl rfl rfl (by decide)) ?_); (refine zZ.v rfl rfl (zS rfl (by rfl) (by rfl) (by rfl) (by rfl) rfl (by decide)) ?_); (refine zZ.ofT rfl (zM.xA [1000] (cdo_ret L i r q hr hL 3 c v 0 yD) rfl (by decide) (zH rfl) (by rfl) (zD (by decide) rfl (by repeat' first | exact trivial | rfl | constructor)) rfl rfl rfl rfl ?_)); (refine zZ.m rfl rfl (zC rfl (by decide) rfl (by decide)) ?_); (refine zZ.w rfl (by exact zB rfl rfl rfl rfl rfl (by rfl) (by exact Nat.le_of_ble_eq_true rfl) rfl rfl) ?_); refine zZ.nil ?_) | (refine zX.isR (id := 2) ?_; refine zX.zV [6, 7] [7, 1000] (by repeat' first | exact zY.nil | apply zY.p rfl | apply zY.ptr rfl) (by repeat' first | exact zW.nil | apply zW.boxP rfl rfl) ?_; (refine zZ.v rfl rfl (zJ rfl rfl rfl (by decide)) ?_); (refine zZ.v rfl rfl (zA rfl rfl rfl rfl rfl (by decide)) ?_); (refine zZ.v rfl rfl (zK rfl rfl rfl (by decide)) ?_); refine zZ.nil ?_) | refine zX.ret ?_))
  all_goals exact ⟨(by exact .inl rfl), _, Sub.refl _, .one rfl rfl, yV (by repeat' first | exact trivial | rfl | constructor)⟩
theorem cadd_end (L : List zO) (q : Ned) (hL : L.length ≤ 1000000) (c : Int) (v : Int) : FnE Tryz.prog 46 [.ptr 1000 0, .p (.val (.int .i64 c)), .p (.val (.int .u64 v))] [vH L L.length false q] (.ret (.p (.val (.int .u64 0)))) [vH L L.length true (xB 3 c v 0 yD)] := by
  refine yS Tryz.func46 rfl Tryz.ntmps46 (Nat.le_of_ble_eq_true rfl) (by decide) ?_
  repeat' ((refine zX.is ?_; first | refine zX.seq ?_ | (refine zX.isR (id := 0) ?_; refine zX.zV [0, 1, 2] [7, 1000] (by repeat' first | exact zY.nil | apply zY.p rfl | apply zY.ptr rfl) (by repeat' first | exact zW.nil | apply zW.boxP rfl rfl | apply zW.skip) ?_; (refine zZ.v rfl rfl (zK rfl rfl rfl (by decide)) ?_); refine zZ.nil ?_) | (refine zX.isR (id := 1) ?_; refine zX.zV [0, 1, 2, 6] [7, 1000] (by repeat' first | exact zY.nil | apply zY.p rfl | apply zY.ptr rfl) (by repeat' first | exact zW.nil | apply zW.boxP rfl rfl | apply zW.skip) ?_; (refine zZ.v rfl rfl (yZ rfl rfl rfl (by decide)) ?_); (refine zZ.v rfl rfl (zQ rfl rfl rfl (by decide)) ?_); (refine zZ.v rfl rfl (zQ rfl rfl rfl (by decide)) ?_); (refine zZ.v rfl rfl (zS rfl (by rfl) (by rfl) (by rfl) (by rfl) rfl (by decide)) ?_); (refine zZ.ofT rfl (zM.xA [1000] (cdo_end L q hL 3 c v 0 yD) rfl (by decide) (zH rfl) (by rfl) (zD (by decide) rfl (by repeat' first | exact trivial | rfl | constructor)) rfl rfl rfl rfl ?_)); (refine zZ.m rfl rfl (zC rfl (by decide) rfl (by decide)) ?_); (refine zZ.w rfl (by exact zB rfl rfl rfl rfl rfl (by rfl) (by exact Nat.le_of_ble_eq_true rfl) rfl rfl) ?_); refine zZ.nil ?_) | (refine zX.isR (id := 2) ?_; refine zX.zV [6, 7] [7, 1000] (by repeat' first | exact zY.nil | apply zY.p rfl | apply zY.ptr rfl) (by repeat' first | exact zW.nil | apply zW.boxP rfl rfl) ?_; (refine zZ.v rfl rfl (zJ rfl rfl rfl (by decide)) ?_); (refine zZ.v rfl rfl (zA rfl rfl rfl rfl rfl (by decide)) ?_); (refine zZ.v rfl rfl (zK rfl rfl rfl (by decide)) ?_); refine zZ.nil ?_) | refine zX.ret ?_))
  all_goals exact ⟨(by exact .inl rfl), _, Sub.refl _, .one rfl rfl, yV (by repeat' first | exact trivial | rfl | constructor)⟩
theorem cadd_stop (L : List zO) (i : Nat) (q : Ned) (c : Int) (v : Int) : FnE Tryz.prog 46 [.ptr 1000 0, .p (.val (.int .i64 c)), .p (.val (.int .u64 v))] [vH L i true q] (.ret (.p (.val (.int .u64 0)))) [vH L i true q] := by
  refine yS Tryz.func46 rfl Tryz.ntmps46 (Nat.le_of_ble_eq_true rfl) (by decide) ?_
  repeat' ((refine zX.is ?_; first | refine zX.seq ?_ | (refine zX.isR (id := 0) ?_; refine zX.zV [0, 1, 2] [7, 1000] (by repeat' first | exact zY.nil | apply zY.p rfl | apply zY.ptr rfl) (by repeat' first | exact zW.nil | apply zW.boxP rfl rfl | apply zW.skip) ?_; (refine zZ.v rfl rfl (zK rfl rfl rfl (by decide)) ?_); refine zZ.nil ?_) | (refine zX.isR (id := 1) ?_; refine zX.zV [0, 1, 2, 6] [7, 1000] (by repeat' first | exact zY.nil | apply zY.p rfl | apply zY.ptr rfl) (by repeat' first | exact zW.nil | apply zW.boxP rfl rfl | apply zW.skip) ?_; (refine zZ.v rfl rfl (yZ rfl rfl rfl (by decide)) ?_); (refine zZ.v rfl rfl (zQ rfl rfl rfl (by decide)) ?_); (refine zZ.v rfl rfl (zQ rfl rfl rfl (by decide)) ?_); (refine zZ.v rfl rfl (zS rfl (by rfl) (by rfl) (by rfl) (by rfl) rfl (by decide)) ?_); (refine zZ.ofT rfl (zM.xA [1000] (cdo_stop L i q 3 c v 0 yD) rfl (by decide) (zH rfl) (by rfl) (zD (by decide) rfl (by repeat' first | exact trivial | rfl | constructor)) rfl rfl rfl rfl ?_)); (refine zZ.m rfl rfl (zC rfl (by decide) rfl (by decide)) ?_); (refine zZ.w rfl (by exact zB rfl rfl rfl rfl rfl (by rfl) (by exact Nat.le_of_ble_eq_true rfl) rfl rfl) ?_); refine zZ.nil ?_) | (refine zX.isR (id := 2) ?_; refine zX.zV [6, 7] [7, 1000] (by repeat' first | exact zY.nil | apply zY.p rfl | apply zY.ptr rfl) (by repeat' first | exact zW.nil | apply zW.boxP rfl rfl) ?_; (refine zZ.v rfl rfl (zJ rfl rfl rfl (by decide)) ?_); (refine zZ.v rfl rfl (zA rfl rfl rfl rfl rfl (by decide)) ?_); (refine zZ.v rfl rfl (zK rfl rfl rfl (by decide)) ?_); refine zZ.nil ?_) | refine zX.ret ?_))
  all_goals exact ⟨(by exact .inl rfl), _, Sub.refl _, .one rfl rfl, yV (by repeat' first | exact trivial | rfl | constructor)⟩
end Go.Proofs.YtlfkofkdigmnpaaGreatDoor
/- Words and cells, the program's and the document's: contracts. -/
namespace Go.Proofs.YtlfkofkdigmnpaaGreatDoor
set_option maxRecDepth 100000
set_option maxHeartbeats 16000000
open Go Go.RowKit
attribute [local irreducible] zZ zX Step zG Sub zP Fn
theorem eqB' {a b : Bool} (h : a = b) : PV.val (.bool a) = PV.val (.bool b) := by rw [h]
def flagF (s b : Int) : Int := s % 4611686018427387904 * 4 + b % 4
def hasF (w b : Int) : Bool := (decide (b % 2 = 0) || decide (w % 2 = 1)) && (decide (b % 4 < 2) || decide (w / 2 % 2 = 1))
theorem wrapU (x : Int) : IntKind.u64.wrap x = x % 18446744073709551616 := by simp [IntKind.wrap, IntKind.signed, IntKind.bits]
theorem and3 (x : Int) (h0 : 0 ≤ x) (h1 : x < 18446744073709551616) : bits .and .u64 x 3 = x % 4 := by
  obtain ⟨n, rfl⟩ := Int.eq_ofNat_of_zero_le h0
  rw [show (3 : Int) = ((3 : Nat) : Int) from rfl, u64_and_nat n 3 (by omega) (by decide)]
  have : n &&& 3 = n % 4 := Nat.and_two_pow_sub_one_eq_mod n 2
  rw [this]
  omega
theorem orLow (a b : Int) (h0 : 0 ≤ a) (h1 : a < 4611686018427387904) (b0 : 0 ≤ b) (b1 : b < 4) : bits .or .u64 (a * 4) b = a * 4 + b := by
  obtain ⟨n, rfl⟩ := Int.eq_ofNat_of_zero_le h0
  obtain ⟨m, rfl⟩ := Int.eq_ofNat_of_zero_le b0
  rw [show (n : Int) * 4 = ((n * 4 : Nat) : Int) from by omega, u64_or_nat (n * 4) m (by omega) (by omega)]
  have : n * 4 ||| m = n * 4 + m := by
    have := Nat.shiftLeft_add_eq_or_of_lt (show m < 2 ^ 2 by omega) n
    rw [Nat.shiftLeft_eq] at this
    exact this.symm
  rw [this]
  omega
theorem andHas (w q : Int) (h0 : 0 ≤ w) (h1 : w < 18446744073709551616) (q0 : 0 ≤ q) (q1 : q < 4) : decide (bits .and .u64 w q = q) = ((decide (q % 2 = 0) || decide (w % 2 = 1)) && (decide (q < 2) || decide (w / 2 % 2 = 1))) := by
  obtain ⟨n, rfl⟩ := Int.eq_ofNat_of_zero_le h0
  have e : ∀ m : Nat, m < 4 → bits .and .u64 (n : Int) (m : Int) = ((n &&& m : Nat) : Int) := fun m hm => u64_and_nat n m (by omega) (by omega)
  have h : q = ((0 : Nat) : Int) ∨ q = ((1 : Nat) : Int) ∨ q = ((2 : Nat) : Int) ∨ q = ((3 : Nat) : Int) := by omega
  have b1 : n &&& 1 = n % 2 := Nat.and_two_pow_sub_one_eq_mod n 1
  have b3 : n &&& 3 = n % 4 := Nat.and_two_pow_sub_one_eq_mod n 2
  have b2 : n &&& 2 = n / 2 % 2 * 2 := by
    apply Nat.eq_of_testBit_eq
    intro i
    rw [Nat.testBit_and]
    match i with
    | 0 => simp [Nat.testBit_zero]
    | 1 => simp [Nat.testBit_succ, Nat.testBit_zero]
    | i + 2 => simp [Nat.testBit_succ]
  rcases h with rfl | rfl | rfl | rfl
  · rw [e 0 (by decide)]; simp
  · rw [e 1 (by decide), b1]; simp only [← Bool.decide_or, ← Bool.decide_and, decide_eq_decide]; omega
  · rw [e 2 (by decide), b2]; simp only [← Bool.decide_or, ← Bool.decide_and, decide_eq_decide]; omega
  · rw [e 3 (by decide), b3]; simp only [← Bool.decide_or, ← Bool.decide_and, decide_eq_decide]; omega
theorem flag_fn (s b : Int) : Fn Tryz.prog 34 [.val (.int .u64 s), .val (.int .i64 b)] (.p (.val (.int .u64 (flagF s b)))) := by
  have g1 : IntKind.u64.wrap (s * 2 ^ (2 : Int).toNat) = s % 4611686018427387904 * 4 := by rw [wrapU]; show s * 4 % _ = _; omega
  have g2 := wrapU b
  have g3 : bits .and .u64 (b % 18446744073709551616) 3 = b % 4 := by rw [and3 _ (by omega) (by omega)]; omega
  have g4 : bits .or .u64 (s % 4611686018427387904 * 4) (b % 4) = flagF s b := orLow _ _ (by omega) (by omega) (by omega) (by omega)
  refine wJ Tryz.func34 rfl Tryz.ntmps34 (Nat.le_of_ble_eq_true rfl) ?_
  repeat' ((refine zX.is ?_; first | refine zX.seq ?_ | (refine zX.isR (id := 0) ?_; refine zX.zV [0, 1] [] (by repeat' first | exact zY.nil | apply zY.p rfl) (by repeat' exact zW.nil) ?_; (refine zZ.v rfl rfl (zK rfl rfl rfl (by decide)) ?_); refine zZ.nil ?_) | (refine zX.isR (id := 1) ?_; refine zX.zV [0, 1, 4] [] (by repeat' first | exact zY.nil | apply zY.p rfl) (by repeat' exact zW.nil) ?_; (refine zZ.v rfl rfl (zQ rfl rfl rfl (by decide)) ?_); (refine zZ.v rfl rfl (by exact a_shl rfl rfl rfl (by decide) (by decide) (by exact g1) rfl (by decide)) ?_); (refine zZ.v rfl rfl (zQ rfl rfl rfl (by decide)) ?_); (refine zZ.v rfl rfl (by exact xQ rfl rfl (by exact g2) rfl (by decide)) ?_); (refine zZ.v rfl rfl (by exact a_and rfl rfl rfl (by exact g3) rfl (by decide)) ?_); (refine zZ.v rfl rfl (by exact a_or rfl rfl rfl (by exact g4) rfl (by decide)) ?_); (refine zZ.v rfl rfl (zK rfl rfl rfl (by decide)) ?_); refine zZ.nil ?_) | refine zX.ret ?_))
  all_goals exact ⟨.inl rfl, gives1 rfl rfl rfl⟩
theorem flagRef_fn (s b : Int) (h0 : 0 ≤ s) : Fn Tryz.prog 49 [.val (.int .u64 s), .val (.int .i64 b)] (.p (.val (.int .u64 (flagF s b)))) := by
  have g1 : s.tmod 4611686018427387904 = s % 4611686018427387904 := Int.tmod_eq_emod_of_nonneg h0
  have g2 := wrapU b
  have g3 : (b % 18446744073709551616).tmod 4 = b % 4 := by rw [Int.tmod_eq_emod_of_nonneg (by omega)]; omega
  refine wJ Tryz.func49 rfl Tryz.ntmps49 (Nat.le_of_ble_eq_true rfl) ?_
  repeat' ((refine zX.is ?_; first | refine zX.seq ?_ | (refine zX.isR (id := 0) ?_; refine zX.zV [0, 1] [] (by repeat' first | exact zY.nil | apply zY.p rfl) (by repeat' exact zW.nil) ?_; (refine zZ.v rfl rfl (zK rfl rfl rfl (by decide)) ?_); refine zZ.nil ?_) | (refine zX.isR (id := 1) ?_; refine zX.zV [0, 1, 4] [] (by repeat' first | exact zY.nil | apply zY.p rfl) (by repeat' exact zW.nil) ?_; (refine zZ.v rfl rfl (zQ rfl rfl rfl (by decide)) ?_); (refine zZ.v rfl rfl (by exact a_rem rfl rfl rfl (by decide) (by exact g1) rfl (by decide)) ?_); (refine zZ.v rfl rfl (by exact a_mul rfl rfl rfl (by exact wrap_u64 _ (by omega)) rfl (by decide)) ?_); (refine zZ.v rfl rfl (zQ rfl rfl rfl (by decide)) ?_); (refine zZ.v rfl rfl (by exact xQ rfl rfl (by exact g2) rfl (by decide)) ?_); (refine zZ.v rfl rfl (by exact a_rem rfl rfl rfl (by decide) (by exact g3) rfl (by decide)) ?_); (refine zZ.v rfl rfl (by exact y7 rfl rfl rfl (by exact wrap_u64 _ (by omega)) rfl (by decide)) ?_); (refine zZ.v rfl rfl (zK rfl rfl rfl (by decide)) ?_); refine zZ.nil ?_) | refine zX.ret ?_))
  all_goals exact ⟨.inl rfl, gives1 rfl rfl rfl⟩
theorem wstamp_fn (w : Int) : Fn Tryz.prog 39 [.val (.int .u64 w)] (.p (.val (.int .u64 (w / 4)))) := by
  refine wJ Tryz.func39 rfl Tryz.ntmps39 (Nat.le_of_ble_eq_true rfl) ?_
  repeat' ((refine zX.is ?_; first | refine zX.seq ?_ | (refine zX.isR (id := 0) ?_; refine zX.zV [0] [] (by repeat' first | exact zY.nil | apply zY.p rfl) (by repeat' exact zW.nil) ?_; (refine zZ.v rfl rfl (zK rfl rfl rfl (by decide)) ?_); refine zZ.nil ?_) | (refine zX.isR (id := 1) ?_; refine zX.zV [0, 2] [] (by repeat' first | exact zY.nil | apply zY.p rfl) (by repeat' exact zW.nil) ?_; (refine zZ.v rfl rfl (zQ rfl rfl rfl (by decide)) ?_); (refine zZ.v rfl rfl (by exact a_shr rfl rfl rfl (by decide) (by decide) (by (simp only [Int.reduceToNat, Int.reducePow]; rfl)) rfl (by decide)) ?_); (refine zZ.v rfl rfl (zK rfl rfl rfl (by decide)) ?_); refine zZ.nil ?_) | refine zX.ret ?_))
  all_goals exact ⟨.inl rfl, gives1 rfl rfl rfl⟩
theorem vZ (w : Int) (h0 : 0 ≤ w) (h1 : w < 18446744073709551616) : Fn Tryz.prog 51 [.val (.int .u64 w)] (.p (.val (.int .u64 (w / 4)))) := by
  have g1 : IntKind.u64.wrap (w.tdiv 4) = w / 4 := by rw [Int.tdiv_eq_ediv_of_nonneg h0, wrapU]; omega
  refine wJ Tryz.func51 rfl Tryz.ntmps51 (Nat.le_of_ble_eq_true rfl) ?_
  repeat' ((refine zX.is ?_; first | refine zX.seq ?_ | (refine zX.isR (id := 0) ?_; refine zX.zV [0] [] (by repeat' first | exact zY.nil | apply zY.p rfl) (by repeat' exact zW.nil) ?_; (refine zZ.v rfl rfl (zK rfl rfl rfl (by decide)) ?_); refine zZ.nil ?_) | (refine zX.isR (id := 1) ?_; refine zX.zV [0, 2] [] (by repeat' first | exact zY.nil | apply zY.p rfl) (by repeat' exact zW.nil) ?_; (refine zZ.v rfl rfl (zQ rfl rfl rfl (by decide)) ?_); (refine zZ.v rfl rfl (by exact a_quo rfl rfl rfl (by decide) (by exact g1) rfl (by decide)) ?_); (refine zZ.v rfl rfl (zK rfl rfl rfl (by decide)) ?_); refine zZ.nil ?_) | refine zX.ret ?_))
  all_goals exact ⟨.inl rfl, gives1 rfl rfl rfl⟩
theorem mark_fn (w : Int) (h0 : 0 ≤ w) (h1 : w < 18446744073709551616) : Fn Tryz.prog 41 [.val (.int .u64 w)] (.p (.val (.bool (decide (w % 2 = 1))))) := by
  have g1 : bits .and .u64 w 1 = w % 2 := by
    obtain ⟨n, rfl⟩ := Int.eq_ofNat_of_zero_le h0
    rw [show (1 : Int) = ((1 : Nat) : Int) from rfl, u64_and_nat n 1 (by omega) (by decide)]
    have : n &&& 1 = n % 2 := Nat.and_two_pow_sub_one_eq_mod n 1
    rw [this]
    omega
  refine wJ Tryz.func41 rfl Tryz.ntmps41 (Nat.le_of_ble_eq_true rfl) ?_
  repeat' ((refine zX.is ?_; first | refine zX.seq ?_ | (refine zX.isR (id := 0) ?_; refine zX.zV [0] [] (by repeat' first | exact zY.nil | apply zY.p rfl) (by repeat' exact zW.nil) ?_; (refine zZ.v rfl rfl (zK rfl rfl rfl (by decide)) ?_); refine zZ.nil ?_) | (refine zX.isR (id := 1) ?_; refine zX.zV [0, 2] [] (by repeat' first | exact zY.nil | apply zY.p rfl) (by repeat' exact zW.nil) ?_; (refine zZ.v rfl rfl (zQ rfl rfl rfl (by decide)) ?_); (refine zZ.v rfl rfl (by exact a_and rfl rfl rfl (by exact g1) rfl (by decide)) ?_); (refine zZ.v rfl rfl (yQ rfl rfl rfl (by rfl) rfl (by decide)) ?_); (refine zZ.v rfl rfl (zK rfl rfl rfl (by decide)) ?_); refine zZ.nil ?_) | refine zX.ret ?_))
  all_goals exact ⟨.inl rfl, gives1 rfl rfl rfl⟩
theorem markRef_fn (w : Int) (h0 : 0 ≤ w) : Fn Tryz.prog 52 [.val (.int .u64 w)] (.p (.val (.bool (decide (w % 2 = 1))))) := by
  have g1 : w.tmod 2 = w % 2 := Int.tmod_eq_emod_of_nonneg h0
  refine wJ Tryz.func52 rfl Tryz.ntmps52 (Nat.le_of_ble_eq_true rfl) ?_
  repeat' ((refine zX.is ?_; first | refine zX.seq ?_ | (refine zX.isR (id := 0) ?_; refine zX.zV [0] [] (by repeat' first | exact zY.nil | apply zY.p rfl) (by repeat' exact zW.nil) ?_; (refine zZ.v rfl rfl (zK rfl rfl rfl (by decide)) ?_); refine zZ.nil ?_) | (refine zX.isR (id := 1) ?_; refine zX.zV [0, 2] [] (by repeat' first | exact zY.nil | apply zY.p rfl) (by repeat' exact zW.nil) ?_; (refine zZ.v rfl rfl (zQ rfl rfl rfl (by decide)) ?_); (refine zZ.v rfl rfl (by exact a_rem rfl rfl rfl (by decide) (by exact g1) rfl (by decide)) ?_); (refine zZ.v rfl rfl (yQ rfl rfl rfl (by rfl) rfl (by decide)) ?_); (refine zZ.v rfl rfl (zK rfl rfl rfl (by decide)) ?_); refine zZ.nil ?_) | refine zX.ret ?_))
  all_goals exact ⟨.inl rfl, gives1 rfl rfl rfl⟩
theorem has_fn (w b : Int) (h0 : 0 ≤ w) (h1 : w < 18446744073709551616) : Fn Tryz.prog 44 [.val (.int .u64 w), .val (.int .i64 b)] (.p (.val (.bool (hasF w b)))) := by
  have g2 := wrapU b
  have g3 : bits .and .u64 (b % 18446744073709551616) 3 = b % 4 := by rw [and3 _ (by omega) (by omega)]; omega
  have g4 : decide (bits .and .u64 w (b % 4) = b % 4) = hasF w b := by
    rw [andHas w (b % 4) h0 h1 (by omega) (by omega)]
    unfold hasF
    have : b % 4 % 2 = b % 2 := by omega
    rw [this]
  refine wJ Tryz.func44 rfl Tryz.ntmps44 (Nat.le_of_ble_eq_true rfl) ?_
  repeat' ((refine zX.is ?_; first | refine zX.seq ?_ | (refine zX.isR (id := 0) ?_; refine zX.zV [0, 1] [] (by repeat' first | exact zY.nil | apply zY.p rfl) (by repeat' exact zW.nil) ?_; (refine zZ.v rfl rfl (zK rfl rfl rfl (by decide)) ?_); refine zZ.nil ?_) | (refine zX.isR (id := 1) ?_; refine zX.zV [0, 1, 4] [] (by repeat' first | exact zY.nil | apply zY.p rfl) (by repeat' exact zW.nil) ?_; (refine zZ.v rfl rfl (zQ rfl rfl rfl (by decide)) ?_); (refine zZ.v rfl rfl (by exact xQ rfl rfl (by exact g2) rfl (by decide)) ?_); (refine zZ.v rfl rfl (by exact a_and rfl rfl rfl (by exact g3) rfl (by decide)) ?_); (refine zZ.v rfl rfl (zK rfl rfl rfl (by decide)) ?_); refine zZ.nil ?_) | (refine zX.isR (id := 2) ?_; refine zX.zV [0, 4, 5] [] (by repeat' first | exact zY.nil | apply zY.p rfl) (by repeat' exact zW.nil) ?_; (refine zZ.v rfl rfl (zQ rfl rfl rfl (by decide)) ?_); (refine zZ.v rfl rfl (zQ rfl rfl rfl (by decide)) ?_); (refine zZ.v rfl rfl (a_and rfl rfl rfl (by rfl) rfl (by decide)) ?_); (refine zZ.v rfl rfl (zQ rfl rfl rfl (by decide)) ?_); (refine zZ.v rfl rfl (by exact yQ rfl rfl rfl (by exact g4) rfl (by decide)) ?_); (refine zZ.v rfl rfl (zK rfl rfl rfl (by decide)) ?_); refine zZ.nil ?_) | refine zX.ret ?_))
  all_goals exact ⟨.inl rfl, gives1 rfl rfl rfl⟩
theorem hasRef_fn (w b : Int) (h0 : 0 ≤ w) (h1 : w < 18446744073709551616) : Fn Tryz.prog 53 [.val (.int .u64 w), .val (.int .i64 b)] (.p (.val (.bool (hasF w b)))) := by
  have g2 := wrapU b
  have g3 : (b % 18446744073709551616).tmod 4 = b % 4 := by rw [Int.tmod_eq_emod_of_nonneg (by omega)]; omega
  have g4 : (b % 4).tmod 2 = b % 2 := by rw [Int.tmod_eq_emod_of_nonneg (by omega)]; omega
  have g5 : w.tmod 2 = w % 2 := Int.tmod_eq_emod_of_nonneg h0
  have g6 : IntKind.u64.wrap (w.tdiv 2) = w / 2 := by rw [Int.tdiv_eq_ediv_of_nonneg h0, wrapU]; omega
  have g7 : (w / 2).tmod 2 = w / 2 % 2 := Int.tmod_eq_emod_of_nonneg (by omega)
  refine wJ Tryz.func53 rfl Tryz.ntmps53 (Nat.le_of_ble_eq_true rfl) ?_
  repeat' ((refine zX.is ?_; first | refine zX.seq ?_ | (refine zX.isR (id := 0) ?_; refine zX.zV [0, 1] [] (by repeat' first | exact zY.nil | apply zY.p rfl) (by repeat' exact zW.nil) ?_; (refine zZ.v rfl rfl (zK rfl rfl rfl (by decide)) ?_); refine zZ.nil ?_) | (refine zX.isR (id := 1) ?_; refine zX.zV [0, 1, 4] [] (by repeat' first | exact zY.nil | apply zY.p rfl) (by repeat' exact zW.nil) ?_; (refine zZ.v rfl rfl (zQ rfl rfl rfl (by decide)) ?_); (refine zZ.v rfl rfl (by exact xQ rfl rfl (by exact g2) rfl (by decide)) ?_); (refine zZ.v rfl rfl (by exact a_rem rfl rfl rfl (by decide) (by exact g3) rfl (by decide)) ?_); (refine zZ.v rfl rfl (zK rfl rfl rfl (by decide)) ?_); refine zZ.nil ?_) | (refine zX.isR (id := 2) ?_; refine zX.zV [0, 4, 5] [] (by repeat' first | exact zY.nil | apply zY.p rfl) (by repeat' exact zW.nil) ?_; all_goals (refine zZ.v rfl rfl (zQ rfl rfl rfl (by decide)) ?_); all_goals (refine zZ.v rfl rfl (by exact a_rem rfl rfl rfl (by decide) (by exact g4) rfl (by decide)) ?_); all_goals (refine zZ.v rfl rfl (yQ rfl rfl rfl (by rfl) rfl (by decide)) ?_); all_goals (refine zZ.v rfl rfl (zQ rfl rfl rfl (by decide)) ?_); all_goals (((fail_if_success refine zZ.known rfl rfl rfl (by fail) ?_); refine zZ.split rfl rfl rfl (fun h => ?_) (fun h => ?_) <;> first | refine zZ.gY rfl rfl (by decide) rfl (by assumption) rfl (by decide) (zQ rfl rfl rfl (by decide)) ?_ | refine zZ.gnF rfl rfl (by decide) rfl (by assumption) rfl (by decide) ?_)); all_goals (first | refine zZ.gY rfl rfl (by decide) rfl (by assumption) rfl (by decide) (by exact a_rem rfl rfl rfl (by decide) (by exact g5) rfl (by decide)) ?_ | refine zZ.gnF rfl rfl (by decide) rfl (by assumption) rfl (by decide) ?_); all_goals (first | refine zZ.gY rfl rfl (by decide) rfl (by assumption) rfl (by decide) (yQ rfl rfl rfl (by rfl) rfl (by decide)) ?_ | refine zZ.gnF rfl rfl (by decide) rfl (by assumption) rfl (by decide) ?_); all_goals (refine zZ.v rfl rfl (by first | exact zT rfl rfl (by assumption) rfl rfl (by decide) | exact zR rfl rfl (by assumption) rfl rfl (by decide)) ?_); all_goals (refine zZ.v rfl rfl (zQ rfl rfl rfl (by decide)) ?_); all_goals (first | refine zZ.gY rfl rfl (by decide) rfl (by with_reducible rfl) rfl (by decide) (zQ rfl rfl rfl (by decide)) ?_ | ((fail_if_success refine zZ.known rfl rfl rfl (by fail) ?_); refine zZ.split rfl rfl rfl (fun h => ?_) (fun h => ?_) <;> first | refine zZ.gY rfl rfl (by decide) rfl (by assumption) rfl (by decide) (zQ rfl rfl rfl (by decide)) ?_ | refine zZ.gnT rfl rfl (by decide) rfl (by assumption) rfl (by decide) ?_)); all_goals (first | refine zZ.gY rfl rfl (by decide) rfl (by first | assumption | with_reducible rfl) rfl (by decide) (yL rfl rfl rfl (by rfl) rfl (by decide)) ?_ | refine zZ.gnT rfl rfl (by decide) rfl (by assumption) rfl (by decide) ?_); all_goals (first | refine zZ.gY rfl rfl (by decide) rfl (by first | assumption | with_reducible rfl) rfl (by decide) (zQ rfl rfl rfl (by decide)) ?_ | refine zZ.gnT rfl rfl (by decide) rfl (by assumption) rfl (by decide) ?_); all_goals (first | refine zZ.gU rfl rfl (by decide) (by rfl) rfl (by decide) ?_ | ((fail_if_success refine zZ.known rfl rfl rfl (by fail) ?_); refine zZ.split rfl rfl rfl (fun h => ?_) (fun h => ?_) <;> first | refine zZ.gY rfl rfl (by decide) rfl (by assumption) rfl (by decide) (zQ rfl rfl rfl (by decide)) ?_ | refine zZ.gnF rfl rfl (by decide) rfl (by assumption) rfl (by decide) ?_)); all_goals (first | refine zZ.gU rfl rfl (by decide) (by rfl) rfl (by decide) ?_ | refine zZ.gY rfl rfl (by decide) rfl (by assumption) rfl (by decide) (by exact a_quo rfl rfl rfl (by decide) (by exact g6) rfl (by decide)) ?_ | refine zZ.gnF rfl rfl (by decide) rfl (by assumption) rfl (by decide) ?_); all_goals (first | refine zZ.gU rfl rfl (by decide) (by rfl) rfl (by decide) ?_ | refine zZ.gY rfl rfl (by decide) rfl (by assumption) rfl (by decide) (by exact a_rem rfl rfl rfl (by decide) (by exact g7) rfl (by decide)) ?_ | refine zZ.gnF rfl rfl (by decide) rfl (by assumption) rfl (by decide) ?_); all_goals (first | refine zZ.gU rfl rfl (by decide) (by rfl) rfl (by decide) ?_ | refine zZ.gY rfl rfl (by decide) rfl (by assumption) rfl (by decide) (yQ rfl rfl rfl (by rfl) rfl (by decide)) ?_ | refine zZ.gnF rfl rfl (by decide) rfl (by assumption) rfl (by decide) ?_); all_goals (first | refine zZ.gY rfl rfl (by decide) rfl (by first | assumption | with_reducible rfl) rfl (by decide) (by first | exact zT rfl rfl (by assumption) rfl rfl (by decide) | exact zR rfl rfl (by assumption) rfl rfl (by decide)) ?_ | refine zZ.gnT rfl rfl (by decide) rfl (by assumption) rfl (by decide) ?_); all_goals (refine zZ.v rfl rfl (by first | exact zT rfl rfl (by first | assumption | with_reducible rfl) rfl rfl (by decide) | exact zR rfl rfl (by assumption) rfl rfl (by decide)) ?_); all_goals (refine zZ.v rfl rfl (zK rfl rfl rfl (by decide)) ?_); all_goals (refine zZ.nil ?_)) | refine zX.ret ?_))
  all_goals refine ⟨.inl rfl, gives1 rfl rfl (eqB' ?_)⟩
  all_goals (unfold hasF; simp [*])
/-- where a record's field lies -/
def yX (t r f : Int) : Int := 8 + t + 8 * (r - 1) + f
def Small (x : Int) : Prop := -1073741824 ≤ x ∧ x ≤ 1073741824
theorem size_fn (t c : Int) (h0 : Small t) (h1 : Small c) : Fn Tryz.prog 62 [.val (.int .i64 t), .val (.int .i64 c)] (.p (.val (.int .i64 (8 + t + 8 * c)))) := by
  unfold Small at h0 h1
  refine wJ Tryz.func62 rfl Tryz.ntmps62 (Nat.le_of_ble_eq_true rfl) ?_
  repeat' ((refine zX.is ?_; first | refine zX.seq ?_ | (refine zX.isR (id := 0) ?_; refine zX.zV [0, 1] [] (by repeat' first | exact zY.nil | apply zY.p rfl) (by repeat' exact zW.nil) ?_; (refine zZ.v rfl rfl (zK rfl rfl rfl (by decide)) ?_); refine zZ.nil ?_) | (refine zX.isR (id := 1) ?_; refine zX.zV [0, 1, 4] [] (by repeat' first | exact zY.nil | apply zY.p rfl) (by repeat' exact zW.nil) ?_; (refine zZ.v rfl rfl (zQ rfl rfl rfl (by decide)) ?_); (refine zZ.v rfl rfl (by exact y7 rfl rfl rfl (by exact wrap_i64 _ (by omega)) rfl (by decide)) ?_); (refine zZ.v rfl rfl (zQ rfl rfl rfl (by decide)) ?_); (refine zZ.v rfl rfl (by exact a_mul rfl rfl rfl (by exact wrap_i64 _ (by omega)) rfl (by decide)) ?_); (refine zZ.v rfl rfl (by exact y7 rfl rfl rfl (by exact wrap_i64 _ (by omega)) rfl (by decide)) ?_); (refine zZ.v rfl rfl (zK rfl rfl rfl (by decide)) ?_); refine zZ.nil ?_) | refine zX.ret ?_))
  all_goals exact ⟨.inl rfl, gives1 rfl rfl rfl⟩
theorem field_fn (t r f : Int) (h0 : Small t) (h1 : 0 ≤ r ∧ r ≤ 1048576) (h2 : Small f) : Fn Tryz.prog 36 [.val (.int .i64 t), .val (.int .i64 r), .val (.int .i64 f)] (.p (.val (.int .i64 (yX t r f)))) := by
  have c1 := size_fn t (r - 1) h0 (by unfold Small; omega)
  unfold Small at h0 h2
  refine wJ Tryz.func36 rfl Tryz.ntmps36 (Nat.le_of_ble_eq_true rfl) ?_
  repeat' ((refine zX.is ?_; first | refine zX.seq ?_ | (refine zX.isR (id := 0) ?_; refine zX.zV [0, 1, 2] [] (by repeat' first | exact zY.nil | apply zY.p rfl) (by repeat' exact zW.nil) ?_; (refine zZ.v rfl rfl (zK rfl rfl rfl (by decide)) ?_); refine zZ.nil ?_) | (refine zX.isR (id := 1) ?_; refine zX.zV [0, 1, 2, 6] [] (by repeat' first | exact zY.nil | apply zY.p rfl) (by repeat' exact zW.nil) ?_; (refine zZ.v rfl rfl (zQ rfl rfl rfl (by decide)) ?_); (refine zZ.v rfl rfl (zQ rfl rfl rfl (by decide)) ?_); (refine zZ.v rfl rfl (by exact a_sub rfl rfl rfl (by exact wrap_i64 _ (by omega)) rfl (by decide)) ?_); (refine zZ.v rfl rfl (by exact zL (c1) rfl rfl rfl (by decide)) ?_); (refine zZ.v rfl rfl (zQ rfl rfl rfl (by decide)) ?_); (refine zZ.v rfl rfl (by exact y7 rfl rfl rfl (by exact wrap_i64 _ (by omega)) rfl (by decide)) ?_); (refine zZ.v rfl rfl (zK rfl rfl rfl (by decide)) ?_); refine zZ.nil ?_) | refine zX.ret ?_))
  all_goals exact ⟨.inl rfl, gives1 rfl rfl rfl⟩
theorem wG (t r f : Int) (h0 : Small t) (h1 : 0 ≤ r ∧ r ≤ 1048576) (h2 : Small f) : Fn Tryz.prog 48 [.val (.int .i64 t), .val (.int .i64 r), .val (.int .i64 f)] (.p (.val (.int .i64 (yX t r f)))) := by
  unfold Small at h0 h2
  refine wJ Tryz.func48 rfl Tryz.ntmps48 (Nat.le_of_ble_eq_true rfl) ?_
  repeat' ((refine zX.is ?_; first | refine zX.seq ?_ | (refine zX.isR (id := 0) ?_; refine zX.zV [0, 1, 2] [] (by repeat' first | exact zY.nil | apply zY.p rfl) (by repeat' exact zW.nil) ?_; (refine zZ.v rfl rfl (zK rfl rfl rfl (by decide)) ?_); refine zZ.nil ?_) | (refine zX.isR (id := 1) ?_; refine zX.zV [0, 1, 2, 6] [] (by repeat' first | exact zY.nil | apply zY.p rfl) (by repeat' exact zW.nil) ?_; (refine zZ.v rfl rfl (zQ rfl rfl rfl (by decide)) ?_); (refine zZ.v rfl rfl (by exact y7 rfl rfl rfl (by exact wrap_i64 _ (by omega)) rfl (by decide)) ?_); (refine zZ.v rfl rfl (zQ rfl rfl rfl (by decide)) ?_); (refine zZ.v rfl rfl (by exact a_sub rfl rfl rfl (by exact wrap_i64 _ (by omega)) rfl (by decide)) ?_); (refine zZ.v rfl rfl (by exact a_mul rfl rfl rfl (by exact wrap_i64 _ (by omega)) rfl (by decide)) ?_); (refine zZ.v rfl rfl (by exact y7 rfl rfl rfl (by exact wrap_i64 _ (by omega)) rfl (by decide)) ?_); (refine zZ.v rfl rfl (zQ rfl rfl rfl (by decide)) ?_); (refine zZ.v rfl rfl (by exact y7 rfl rfl rfl (by exact wrap_i64 _ (by omega)) rfl (by decide)) ?_); (refine zZ.v rfl rfl (zK rfl rfl rfl (by decide)) ?_); refine zZ.nil ?_) | refine zX.ret ?_))
  all_goals exact ⟨.inl rfl, gives1 rfl rfl rfl⟩
theorem next_fn (t r : Int) (h0 : Small t) (h1 : 1 ≤ r ∧ r ≤ 1048576) : Fn Tryz.prog 38 [.val (.int .i64 t), .val (.int .i64 r)] (.p (.val (.int .i64 (yX t r 0)))) := by
  have c1 := field_fn t r 0 h0 (by omega) (by unfold Small; omega)
  have g1 : decide (r = 0) = false := decide_eq_false (by omega)
  refine wJ Tryz.func38 rfl Tryz.ntmps38 (Nat.le_of_ble_eq_true rfl) ?_
  repeat' ((refine zX.is ?_; first | refine zX.seq ?_ | (refine zX.isR (id := 0) ?_; refine zX.zV [0, 1] [] (by repeat' first | exact zY.nil | apply zY.p rfl) (by repeat' exact zW.nil) ?_; (refine zZ.v rfl rfl (zK rfl rfl rfl (by decide)) ?_); refine zZ.nil ?_) | (refine zX.isR (id := 1) ?_; refine zX.zV [0, 1, 4] [] (by repeat' first | exact zY.nil | apply zY.p rfl) (by repeat' exact zW.nil) ?_; (refine zZ.v rfl rfl (zQ rfl rfl rfl (by decide)) ?_); (refine zZ.v rfl rfl (by exact yQ rfl rfl rfl (by exact g1) rfl (by decide)) ?_); refine zZ.nil ?_) | (refine zX.isR (id := 3) ?_; refine zX.zV [0, 1, 4] [] (by repeat' first | exact zY.nil | apply zY.p rfl) (by repeat' exact zW.nil) ?_; (refine zZ.v rfl rfl (zQ rfl rfl rfl (by decide)) ?_); (refine zZ.v rfl rfl (zQ rfl rfl rfl (by decide)) ?_); (refine zZ.v rfl rfl (by exact zL (c1) rfl rfl rfl (by decide)) ?_); (refine zZ.v rfl rfl (zK rfl rfl rfl (by decide)) ?_); refine zZ.nil ?_) | refine zX.yG rfl (by first | assumption | with_reducible rfl) ?_ | refine zX.skip ?_ | refine zX.ret ?_))
  all_goals exact ⟨.inl rfl, gives1 rfl rfl rfl⟩
/-- a flag with a bit -/
def withF (f b : Int) : Int := if hasF f b then f else f + b
theorem with_fn (f b : Int) (h0 : 0 ≤ f) (h1 : f < 18446744073709551616) (hb : b = 1 ∨ b = 2) (hn : hasF f b = false) : Fn Tryz.prog 55 [.val (.int .u64 f), .val (.int .i64 b)] (.p (.val (.int .u64 (f + b)))) := by
  have c1 : Fn Tryz.prog 53 [.val (.int .u64 f), .val (.int .i64 b)] (.p (.val (.bool false))) := hn ▸ hasRef_fn f b h0 h1
  have hlt : f + b < 18446744073709551616 := by
    unfold hasF at hn
    rcases hb with rfl | rfl
    · simp at hn; omega
    · simp at hn; omega
  refine wJ Tryz.func55 rfl Tryz.ntmps55 (Nat.le_of_ble_eq_true rfl) ?_
  repeat' ((refine zX.is ?_; first | refine zX.seq ?_ | (refine zX.isR (id := 0) ?_; refine zX.zV [0, 1] [] (by repeat' first | exact zY.nil | apply zY.p rfl) (by repeat' exact zW.nil) ?_; (refine zZ.v rfl rfl (zK rfl rfl rfl (by decide)) ?_); refine zZ.nil ?_) | (refine zX.isR (id := 1) ?_; refine zX.zV [0, 1, 4] [] (by repeat' first | exact zY.nil | apply zY.p rfl) (by repeat' exact zW.nil) ?_; (refine zZ.v rfl rfl (zQ rfl rfl rfl (by decide)) ?_); (refine zZ.v rfl rfl (zQ rfl rfl rfl (by decide)) ?_); (refine zZ.v rfl rfl (by exact zL (c1) rfl rfl rfl (by decide)) ?_); (refine zZ.v rfl rfl (zK rfl rfl rfl (by decide)) ?_); refine zZ.nil ?_) | (refine zX.isR (id := 2) ?_; refine zX.zV [0, 1, 4, 5] [] (by repeat' first | exact zY.nil | apply zY.p rfl) (by repeat' exact zW.nil) ?_; (refine zZ.v rfl rfl (zQ rfl rfl rfl (by decide)) ?_); refine zZ.nil ?_) | (refine zX.isR (id := 4) ?_; refine zX.zV [0, 1, 4] [] (by repeat' first | exact zY.nil | apply zY.p rfl) (by repeat' exact zW.nil) ?_; (refine zZ.v rfl rfl (zQ rfl rfl rfl (by decide)) ?_); (refine zZ.v rfl rfl (zQ rfl rfl rfl (by decide)) ?_); (refine zZ.v rfl rfl (by exact xQ rfl rfl (by exact wrap_u64 _ (by omega)) rfl (by decide)) ?_); (refine zZ.v rfl rfl (by exact y7 rfl rfl rfl (by exact wrap_u64 _ (by omega)) rfl (by decide)) ?_); (refine zZ.v rfl rfl (zK rfl rfl rfl (by decide)) ?_); refine zZ.nil ?_) | refine zX.yG rfl (by first | assumption | with_reducible rfl) ?_ | refine zX.skip ?_ | refine zX.ret ?_))
  all_goals exact ⟨.inl rfl, gives1 rfl rfl rfl⟩
end Go.Proofs.YtlfkofkdigmnpaaGreatDoor
/- Records: flags, whether one is alive: the program's and the document's, over a log: contracts. -/
namespace Go.Proofs.YtlfkofkdigmnpaaGreatDoor
set_option maxRecDepth 100000
set_option maxHeartbeats 16000000
open Go Go.RowKit
set_option linter.unusedSimpArgs false
attribute [local irreducible] zZ zX Step zG Sub zP zM Fn
/-- how a program over a log goes on: its answer, and how much of the log is told by then; or what it asks next -/
inductive Told (α : Type) where
  | done (x : α) (i : Nat)
  | need (q : Ned)
def ask (L : List zO) (i : Nat) (q : Ned) : Told zO := match L[i]? with
  | some r => .done r (i + 1)
  | none => .need q
def Told.bind {α β : Type} (m : Told α) (f : α → Nat → Told β) : Told β := match m with
  | .done x i => f x i
  | .need q => .need q
def yC (L : List zO) : Prop := L.length ≤ 1000000 ∧ ∀ r ∈ L, 0 ≤ r.n ∧ r.n < 18446744073709551616
theorem yC.at {L : List zO} (h : yC L) {i : Nat} {r : zO} (hr : L[i]? = some r) : 0 ≤ r.n ∧ r.n < 18446744073709551616 := h.2 r (List.mem_of_getElem? hr)
def Rec (t r : Int) : Prop := Small t ∧ 1 ≤ r ∧ r ≤ 1048576
theorem vY (L : List zO) (i : Nat) (r0 : zO) (hr : L[i]? = some r0) (hL : yC L) (t r : Int) (h : Rec t r) : FnE Tryz.prog 40 [doA, .p (.val (.int .i64 t)), .p (.val (.int .i64 r))] (DoB L i) (.ret (.p (.val (.int .u64 r0.n)))) (DoB L (i + 1)) := by
  have c1 := field_fn t r 2 h.1 ⟨by have := h.2.1; omega, h.2.2⟩ (by unfold Small; omega)
  refine yS Tryz.func40 rfl Tryz.ntmps40 (Nat.le_of_ble_eq_true rfl) (by decide) ?_
  repeat' ((refine zX.is ?_; first | refine zX.seq ?_ | (refine zX.isR (id := 0) ?_; refine zX.zV [0, 1, 2] [1000, 1001] (by repeat' first | exact zY.nil | apply zY.p rfl | apply zY.clo rfl) (by repeat' first | exact zW.nil | apply zW.boxP rfl rfl) ?_; (refine zZ.v rfl rfl (zK rfl rfl rfl (by decide)) ?_); refine zZ.nil ?_) | (refine zX.isR (id := 1) ?_; refine zX.zV [0, 1, 2, 6] [1000, 1001] (by repeat' first | exact zY.nil | apply zY.p rfl | apply zY.clo rfl) (by repeat' first | exact zW.nil | apply zW.boxP rfl rfl) ?_; (refine zZ.v rfl rfl (zU rfl rfl rfl (by decide)) ?_); (refine zZ.v rfl rfl (zQ rfl rfl rfl (by decide)) ?_); (refine zZ.v rfl rfl (zQ rfl rfl rfl (by decide)) ?_); (refine zZ.v rfl rfl (by exact zL (c1) rfl rfl rfl (by decide)) ?_); (refine zZ.ofT rfl (zM.xA [1000, 1001] (load_ret L i r0 hr hL.1 (yX t r 2)) rfl (by decide) (zH rfl) (by rfl) (zD (by decide) rfl (by repeat' first | exact trivial | rfl | constructor)) rfl rfl rfl rfl ?_)); (refine zZ.v rfl rfl (zK rfl rfl rfl (by decide)) ?_); refine zZ.nil ?_) | refine zX.ret ?_))
  all_goals exact ⟨(by exact .inl rfl), _, Sub.refl _, .one rfl rfl, yV (by repeat' first | exact trivial | rfl | constructor)⟩
theorem flagD_pan (L : List zO) (hL : yC L) (t r : Int) (h : Rec t r) : FnE Tryz.prog 40 [doA, .p (.val (.int .i64 t)), .p (.val (.int .i64 r))] (DoB L L.length) (.pan (needA (xP 0 (yX t r 2) 0 0 yD))) (DoB L L.length) := by
  have c1 := field_fn t r 2 h.1 ⟨by have := h.2.1; omega, h.2.2⟩ (by unfold Small; omega)
  refine yS Tryz.func40 rfl Tryz.ntmps40 (Nat.le_of_ble_eq_true rfl) (by decide) ?_
  repeat' (first | (refine zZ.is ?_; first | refine zZ.v rfl rfl (by first | exact zQ rfl rfl rfl (by decide) | exact zU rfl rfl rfl (by decide) | exact zL (c1) rfl rfl rfl (by decide)) ?_ | refine zZ.ofT rfl (zM.ePan [1000, 1001] (load_pan L hL.1 (yX t r 2)) (zH rfl) (by rfl) (zD (by decide) rfl (by repeat' first | exact trivial | rfl | constructor)) rfl rfl rfl rfl ?_)) | (refine zX.is ?_; first | refine zX.seq ?_ | (refine zX.isR (id := 0) ?_; refine zX.zV [0, 1, 2] [1000, 1001] (by repeat' first | exact zY.nil | apply zY.p rfl | apply zY.clo rfl) (by repeat' first | exact zW.nil | apply zW.boxP rfl rfl) ?_; (refine zZ.v rfl rfl (zK rfl rfl rfl (by decide)) ?_); refine zZ.nil ?_) | (refine zX.isR (id := 1) ?_; refine zX.zV [0, 1, 2, 6] [1000, 1001] (by repeat' first | exact zY.nil | apply zY.p rfl | apply zY.clo rfl) (by repeat' first | exact zW.nil | apply zW.boxP rfl rfl) ?_)))
  all_goals exact ⟨rfl, rfl, yV (by repeat' first | exact trivial | rfl | constructor)⟩
/-- is a record alive -/
def aliveB (w f stamp : Int) : Bool := decide (f / 4 = stamp) && !decide (w % 2 = 1)
end Go.Proofs.YtlfkofkdigmnpaaGreatDoor
/- A bit of a flag is set, unless that is done: the program's loop over a log, with its two closures: contracts. -/
namespace Go.Proofs.YtlfkofkdigmnpaaGreatDoor
set_option maxRecDepth 100000
set_option maxHeartbeats 16000000
open Go Go.RowKit
set_option linter.unusedSimpArgs false
attribute [local irreducible] zZ zX Step zG Sub zP zM Fn
def xG (b : Int) : Blk := .box 3 [.p (.val (.int .i64 b))]
def entB (k s y u v x : Int) : Blk := .box 66 [.p (.val (.int .i64 k)), .p (.val (.int .u64 s)), .p (.val (.int .u64 y)), .p (.val (.int .u64 u)), .p (.val (.int .u64 v)), .p (.val (.int .u64 x))]
def ov1 (b f : Int) : Bool := hasF f b
theorem over1_fn (f b : Int) (h0 : 0 ≤ f) (h1 : f < 18446744073709551616) : FnE Tryz.prog 43 [.p (.val (.int .u64 f)), .ptr 1000 0] [xG b] (.ret (.p (.val (.bool (ov1 b f))))) [xG b] := by
  have c1 := has_fn f b h0 h1
  refine yS Tryz.func43 rfl Tryz.ntmps43 (Nat.le_of_ble_eq_true rfl) (by decide) ?_
  repeat' ((refine zX.is ?_; first | refine zX.seq ?_ | (refine zX.isR (id := 0) ?_; refine zX.zV [0, 1] [1000] (by repeat' first | exact zY.nil | apply zY.p rfl | apply zY.ptr rfl) (by repeat' first | exact zW.nil | apply zW.boxP rfl rfl) ?_; (refine zZ.v rfl rfl (zK rfl rfl rfl (by decide)) ?_); refine zZ.nil ?_) | (refine zX.isR (id := 1) ?_; refine zX.zV [0, 1, 3] [1000] (by repeat' first | exact zY.nil | apply zY.p rfl | apply zY.ptr rfl) (by repeat' first | exact zW.nil | apply zW.boxP rfl rfl) ?_; (refine zZ.v rfl rfl (zQ rfl rfl rfl (by decide)) ?_); (refine zZ.v rfl rfl (zA rfl rfl rfl rfl rfl (by decide)) ?_); (refine zZ.v rfl rfl (by exact zL (c1) rfl rfl rfl (by decide)) ?_); (refine zZ.v rfl rfl (zK rfl rfl rfl (by decide)) ?_); refine zZ.nil ?_) | refine zX.ret ?_))
  all_goals exact ⟨(by exact .inl rfl), _, Sub.refl _, .one rfl rfl, yV (by repeat' first | exact trivial | rfl | constructor)⟩
def over2 (s b g : Int) : Bool := !decide (g / 4 = s) || hasF g b
theorem over2_fn (g k s y u v x b : Int) (h0 : 0 ≤ g) (h1 : g < 18446744073709551616) : FnE Tryz.prog 67 [.p (.val (.int .u64 g)), .ptr 1000 0, .ptr 1001 0] [entB k s y u v x, xG b] (.ret (.p (.val (.bool (over2 s b g))))) [entB k s y u v x, xG b] := by
  have c1 := has_fn g b h0 h1
  have c2 := wstamp_fn g
  refine yS Tryz.func67 rfl Tryz.ntmps67 (Nat.le_of_ble_eq_true rfl) (by decide) ?_
  unfold over2
  cases hb : decide (g / 4 = s)
  case false =>
    have hb2 : (!decide (g / 4 = s)) = true := by rw [hb]; rfl
    repeat' ((refine zX.is ?_; first | refine zX.seq ?_ | (refine zX.isR (id := 0) ?_; refine zX.zV [0, 1, 2] [1000, 1001] (by repeat' first | exact zY.nil | apply zY.p rfl | apply zY.ptr rfl) (by repeat' first | exact zW.nil | apply zW.boxP rfl rfl) ?_; (refine zZ.v rfl rfl (zK rfl rfl rfl (by decide)) ?_); refine zZ.nil ?_) | (refine zX.isR (id := 1) ?_; refine zX.yA [0, 1, 2, 4] [1000, 1001] (by repeat' first | exact zY.nil | apply zY.p rfl | apply zY.ptr rfl) (by repeat' first | exact zW.nil | apply zW.boxP rfl rfl) (zX.draws ?_); all_goals (refine Draws.v rfl rfl (zQ rfl rfl rfl (by decide)) ?_); all_goals (refine Draws.v rfl rfl (by exact zL (c2) rfl rfl rfl (by decide)) ?_); all_goals (refine Draws.v rfl rfl (zJ rfl rfl rfl (by decide)) ?_); all_goals (refine Draws.v rfl rfl (zA rfl rfl rfl (by rfl) rfl (by decide)) ?_); all_goals (refine Draws.v rfl rfl (by exact xW rfl rfl rfl (by exact hb2) rfl (by decide)) ?_); all_goals (refine Draws.v rfl rfl (zQ rfl rfl rfl (by decide)) ?_); all_goals (refine Draws.gNF rfl rfl (by decide) rfl (by with_reducible rfl) rfl (by decide) ?_); all_goals (refine Draws.gNF rfl rfl (by decide) rfl (by with_reducible rfl) rfl (by decide) ?_); all_goals (refine Draws.gNF rfl rfl (by decide) rfl (by with_reducible rfl) rfl (by decide) ?_); all_goals (refine Draws.v rfl rfl (by exact zT rfl rfl (by with_reducible rfl) rfl rfl (by decide)) ?_); all_goals (refine Draws.v rfl rfl (zK rfl rfl rfl (by decide)) ?_); all_goals ((refine Draws.done (by kernel_rfl) (by kernel_rfl) (by kernel_rfl) ?_; refine zP.nil ?_))) | refine zX.ret ?_))
    all_goals exact ⟨(by exact .inl rfl), _, Sub.refl _, .one rfl rfl, yV (by repeat' first | exact trivial | rfl | constructor)⟩
  case true =>
    have hb2 : (!decide (g / 4 = s)) = false := by rw [hb]; rfl
    repeat' ((refine zX.is ?_; first | refine zX.seq ?_ | (refine zX.isR (id := 0) ?_; refine zX.zV [0, 1, 2] [1000, 1001] (by repeat' first | exact zY.nil | apply zY.p rfl | apply zY.ptr rfl) (by repeat' first | exact zW.nil | apply zW.boxP rfl rfl) ?_; (refine zZ.v rfl rfl (zK rfl rfl rfl (by decide)) ?_); refine zZ.nil ?_) | (refine zX.isR (id := 1) ?_; refine zX.yA [0, 1, 2, 4] [1000, 1001] (by repeat' first | exact zY.nil | apply zY.p rfl | apply zY.ptr rfl) (by repeat' first | exact zW.nil | apply zW.boxP rfl rfl) (zX.draws ?_); all_goals (refine Draws.v rfl rfl (zQ rfl rfl rfl (by decide)) ?_); all_goals (refine Draws.v rfl rfl (by exact zL (c2) rfl rfl rfl (by decide)) ?_); all_goals (refine Draws.v rfl rfl (zJ rfl rfl rfl (by decide)) ?_); all_goals (refine Draws.v rfl rfl (zA rfl rfl rfl (by rfl) rfl (by decide)) ?_); all_goals (refine Draws.v rfl rfl (by exact xW rfl rfl rfl (by exact hb2) rfl (by decide)) ?_); all_goals (refine Draws.v rfl rfl (zQ rfl rfl rfl (by decide)) ?_); all_goals (refine Draws.gY rfl rfl (by decide) rfl (by with_reducible rfl) rfl (zQ rfl rfl rfl (by decide)) ?_); all_goals (refine Draws.gY rfl rfl (by decide) rfl (by with_reducible rfl) rfl (zA rfl rfl rfl (by rfl) rfl (by decide)) ?_); all_goals (refine Draws.gY rfl rfl (by decide) rfl (by with_reducible rfl) rfl (by exact zL (c1) rfl rfl rfl (by decide)) ?_); all_goals (refine Draws.v rfl rfl (by exact zR rfl rfl (by with_reducible rfl) rfl rfl (by decide)) ?_); all_goals (refine Draws.v rfl rfl (zK rfl rfl rfl (by decide)) ?_); all_goals ((refine Draws.done (by kernel_rfl) (by kernel_rfl) (by kernel_rfl) ?_; refine zP.nil ?_))) | refine zX.ret ?_))
    all_goals exact ⟨(by exact .inl rfl), _, Sub.refl _, .one rfl rfl, yV (by repeat' first | exact trivial | rfl | constructor)⟩
theorem orBit (f b : Int) (h0 : 0 ≤ f) (h1 : f < 18446744073709551616) (hb : b = 1 ∨ b = 2) (hn : hasF f b = false) : bits .or .u64 f b = f + b ∧ f + b < 18446744073709551616 := by
  obtain ⟨n, rfl⟩ := Int.eq_ofNat_of_zero_le h0
  unfold hasF at hn
  rcases hb with rfl | rfl
  · simp at hn
    have e : n ||| 1 = n + 1 := by
      have h2 := Nat.shiftLeft_add_eq_or_of_lt (show 1 < 2 ^ 1 by decide) (n / 2)
      rw [Nat.shiftLeft_eq] at h2
      have h3 : n / 2 * 2 ^ 1 = n := by omega
      rw [h3] at h2
      exact h2.symm
    rw [show (1 : Int) = ((1 : Nat) : Int) from rfl, u64_or_nat n 1 (by omega) (by decide), e]
    constructor <;> omega
  · simp at hn
    have e : n ||| 2 = n + 2 := by
      have h2 := Nat.shiftLeft_add_eq_or_of_lt (show n % 4 < 2 ^ 2 by omega) (n / 4)
      have h3 := Nat.shiftLeft_add_eq_or_of_lt (show n % 4 + 2 < 2 ^ 2 by omega) (n / 4)
      rw [Nat.shiftLeft_eq] at h2 h3
      have h4 : n / 4 * 2 ^ 2 + n % 4 = n := by omega
      have h5 : n % 4 ||| 2 = n % 4 + 2 := by
        have : n % 4 = 0 ∨ n % 4 = 1 := by omega
        rcases this with h | h <;> rw [h] <;> rfl
      rw [h4] at h2
      have h6 : n ||| 2 = (n / 4 * 2 ^ 2 ||| n % 4) ||| 2 := congrArg (· ||| 2) h2
      rw [h6, Nat.or_assoc, h5, ← h3]
      omega
    rw [show (2 : Int) = ((2 : Nat) : Int) from rfl, u64_or_nat n 2 (by omega) (by decide), e]
    constructor <;> omega
/-- the loop that sets a bit: over what the log tells from place i on -/
def xU (over : Int → Bool) (c bit : Int) : List zO → Nat → Told Unit
  | [], _ => .need (xB 0 c 0 0 yD)
  | [r], i => if over r.n then .done () (i + 1) else .need (xB 2 c r.n (r.n + bit) yD)
  | r :: r2 :: l2, i => if over r.n then .done () (i + 1) else if r2.n = 1 then .done () (i + 2) else xU over c bit l2 (i + 2)
theorem setL_over {over : Int → Bool} {c bit : Int} {r : zO} {l : List zO} {i : Nat} (h : over r.n = true) : xU over c bit (r :: l) i = .done () (i + 1) := by
  cases l <;> simp [xU, h]
theorem drop_at {L : List zO} {i : Nat} {r : zO} {l : List zO} (h : L.drop i = r :: l) : L[i]? = some r ∧ L.drop (i + 1) = l := by
  constructor
  · have := congrArg (·[0]?) h
    simpa using this
  · rw [← List.drop_drop, h]
    rfl
theorem vB {L : List zO} {i : Nat} (hi : i ≤ L.length) (h : L.drop i = []) : i = L.length := by
  have := congrArg List.length h
  simp at this
  omega
/-- what holds of set's end -/
def SetE1 (L : List zO) (t r b : Int) (i : Nat) (o : Told Unit) : Prop := match o with
  | .done _ j => FnE Tryz.prog 42 [doA, .p (.val (.int .i64 t)), .p (.val (.int .i64 r)), .p (.val (.int .i64 b)), .clo 43 [1002]] [atB i, xM L, xG b] (.ret .any) [atB j, xM L, xG b]
  | .need q => FnE Tryz.prog 42 [doA, .p (.val (.int .i64 t)), .p (.val (.int .i64 r)), .p (.val (.int .i64 b)), .clo 43 [1002]] [atB i, xM L, xG b] (.pan (needA (xP q.kind q.cell q.a q.b q.d))) [atB L.length, xM L, xG b]
def setS1 (L : List zO) (t r b : Int) (i : Nat) : AS :=
  { t := [(0, doA), (1, .p (.val (.int .i64 t))), (2, .p (.val (.int .i64 r))), (3, .p (.val (.int .i64 b))), (4, .clo 43 [1002])], s := [(1000, atB i), (1001, xM L), (1002, xG b)] }
theorem set1_fn (L : List zO) (hL : yC L) (t r b : Int) (h : Rec t r) (hb : b = 1 ∨ b = 2) (i : Nat) (hi : i ≤ L.length) : SetE1 L t r b i (xU (ov1 b) (yX t r 2) b (L.drop i) i) := by
  have cf := field_fn t r 2 h.1 ⟨by have := h.2.1; omega, h.2.2⟩ (by unfold Small; omega)
  have hov : ∀ f, (ov1 b) f = false → hasF f b = false := fun f hf => hf
  have hwb : IntKind.u64.wrap b = b := wrap_u64 _ (by omega)
  have main : ∀ (ev : EV) (B' : List Blk), (∀ j, xU (ov1 b) (yX t r 2) b (L.drop i) i = .done () j → ev = .ret .any ∧ B' = [atB j, xM L, xG b]) → (∀ q, xU (ov1 b) (yX t r 2) b (L.drop i) i = .need q → ev = .pan (needA (xP q.kind q.cell q.a q.b q.d)) ∧ B' = [atB L.length, xM L, xG b]) →
      FnE Tryz.prog 42 [doA, .p (.val (.int .i64 t)), .p (.val (.int .i64 r)), .p (.val (.int .i64 b)), .clo 43 [1002]] [atB i, xM L, xG b] ev B' := by
    intro ev B' h1 h2
    refine yS Tryz.func42 rfl Tryz.ntmps42 (Nat.le_of_ble_eq_true rfl) (by decide) ?_
    repeat' ((refine zX.is ?_; refine zX.block ?_))
    refine zX.loop (setS1 L t r b) (fun j => j ≤ L.length ∧ xU (ov1 b) (yX t r 2) b (L.drop j) j = xU (ov1 b) (yX t r 2) b (L.drop i) i) (fun j => L.length - j) i ?h0 ⟨hi, rfl⟩ ?rd
    case h0 =>
      refine yY (is := [0, 1, 2, 3, 4]) (js := [1000, 1001, 1002]) ?_ ?_
      repeat' first | exact zY.nil | apply zY.p rfl | apply zY.ptr rfl | apply zY.own rfl | apply zY.clo rfl | apply zY.pt rfl | apply zY.tup rfl | apply zY.skip
      repeat' first | exact zW.nil | apply zW.boxP rfl rfl | apply zW.yH rfl | apply zW.some rfl | apply zW.skip
    case rd =>
      rintro j ⟨hj, hjo⟩
      cases hd : L.drop j with
      | nil =>
        obtain rfl := vB hj hd
        rw [hd] at hjo
        obtain ⟨rfl, rfl⟩ := h2 _ hjo.symm
        repeat' (first | (refine zZ.is ?_; first | refine zZ.v rfl rfl (by first | exact zQ rfl rfl rfl (by decide) | exact zU rfl rfl rfl (by decide)) ?_ | refine zZ.ofT rfl (zM.ePan [1000, 1001] (flagD_pan L hL t r h) (zH rfl) (by rfl) (zD (by decide) rfl (by repeat' first | exact trivial | rfl | constructor)) rfl rfl rfl rfl ?_)) | (refine zX.is ?_; first | refine zX.seq ?_ | (refine zX.isR (id := 0) ?_; refine zX.zV [0, 1, 2, 3, 4, 10, 29] [1000, 1001, 1002] (by repeat' first | exact zY.nil | apply zY.p rfl | apply zY.clo rfl | apply zY.skip) (by repeat' first | exact zW.nil | apply zW.boxP rfl rfl) ?_) | refine zX.block ?_))
        all_goals exact ⟨rfl, rfl, yV (by repeat' first | exact trivial | rfl | constructor)⟩
      | cons r0 l =>
        obtain ⟨hr0, hl⟩ := drop_at hd
        have hlt : j < L.length := (List.getElem?_eq_some_iff.1 hr0).1
        have hn := hL.at hr0
        have co := over1_fn r0.n b hn.1 hn.2
        by_cases hov1 : (ov1 b) r0.n = true
        · rw [hd, setL_over hov1] at hjo
          obtain ⟨rfl, rfl⟩ := h1 _ hjo.symm
          rw [hov1] at co
          repeat' (first | (refine zX.is ?_; first | refine zX.seq ?_ | (refine zX.isR (id := 0) ?_; refine zX.zV [0, 1, 2, 3, 4, 10, 29] [1000, 1001, 1002] (by repeat' first | exact zY.nil | apply zY.p rfl | apply zY.clo rfl | apply zY.skip) (by repeat' first | exact zW.nil | apply zW.boxP rfl rfl) ?_; (refine zZ.v rfl rfl (zU rfl rfl rfl (by decide)) ?_); (refine zZ.v rfl rfl (zQ rfl rfl rfl (by decide)) ?_); (refine zZ.v rfl rfl (zQ rfl rfl rfl (by decide)) ?_); (refine zZ.ofT rfl (zM.xA [1000, 1001] (vY L j r0 hr0 hL t r h) rfl (by decide) (zH rfl) (by rfl) (zD (by decide) rfl (by repeat' first | exact trivial | rfl | constructor)) rfl rfl rfl rfl ?_)); (refine zZ.v rfl rfl (zK rfl rfl rfl (by decide)) ?_); refine zZ.nil ?_) | (refine zX.isR (id := 1) ?_; refine zX.zV [0, 1, 2, 3, 4, 10, 29] [1000, 1001, 1002] (by repeat' first | exact zY.nil | apply zY.p rfl | apply zY.clo rfl | apply zY.skip) (by repeat' first | exact zW.nil | apply zW.boxP rfl rfl) ?_; all_goals (refine zZ.v rfl rfl (zU rfl rfl rfl (by decide)) ?_); all_goals (refine zZ.v rfl rfl (zQ rfl rfl rfl (by decide)) ?_); all_goals (refine zZ.ofT rfl (zM.xA [1002] (co) rfl (by decide) (yF rfl rfl) (by rfl) (zD (by decide) rfl (by repeat' first | exact trivial | rfl | constructor)) rfl rfl rfl rfl ?_)); all_goals (refine zZ.v rfl rfl (zQ rfl rfl rfl (by decide)) ?_); all_goals (refine zZ.gnF rfl rfl (by decide) rfl (by with_reducible rfl) rfl (by decide) ?_); all_goals (refine zZ.gnF rfl rfl (by decide) rfl (by with_reducible rfl) rfl (by decide) ?_); all_goals (refine zZ.gnF rfl rfl (by decide) rfl (by with_reducible rfl) rfl (by decide) ?_); all_goals (refine zZ.gnF rfl rfl (by decide) rfl (by with_reducible rfl) rfl (by decide) ?_); all_goals (refine zZ.gnF rfl rfl (by decide) rfl (by with_reducible rfl) rfl (by decide) ?_); all_goals (refine zZ.gnF rfl rfl (by decide) rfl (by with_reducible rfl) rfl (by decide) ?_); all_goals (refine zZ.gnF rfl rfl (by decide) rfl (by with_reducible rfl) rfl (by decide) ?_); all_goals (refine zZ.gnF rfl rfl (by decide) rfl (by with_reducible rfl) rfl (by decide) ?_); all_goals (refine zZ.gnF rfl rfl (by decide) rfl (by with_reducible rfl) rfl (by decide) ?_); all_goals (refine zZ.gnF rfl rfl (by decide) rfl (by with_reducible rfl) rfl (by decide) ?_); all_goals (refine zZ.v rfl rfl (by exact zT rfl rfl (by with_reducible rfl) rfl rfl (by decide)) ?_); all_goals (refine zZ.nil ?_)) | refine zX.yE rfl (by first | assumption | with_reducible rfl) ?_ | refine zX.block ?_ | refine zX.ret ?_) | refine yJ.r ?_ | refine xV.r ?_)
          all_goals exact ⟨(by exact .inl rfl), _, Sub.refl _, .none rfl, yV (by repeat' first | exact trivial | rfl | constructor)⟩
        · have hov0 : (ov1 b) r0.n = false := by simpa using hov1
          rw [hov0] at co
          obtain ⟨ho1, ho2⟩ := orBit r0.n b hn.1 hn.2 hb (hov _ hov0)
          cases l with
          | nil =>
            rw [hd, xU, if_neg hov1] at hjo
            obtain ⟨rfl, rfl⟩ := h2 _ hjo.symm
            have he := vB (by omega) hl
            have c2 := vY L j r0 hr0 hL t r h
            rw [he] at c2
            repeat' ((refine zX.is ?_; first | refine zX.seq ?_ | (refine zX.isR (id := 0) ?_; refine zX.zV [0, 1, 2, 3, 4, 10, 29] [1000, 1001, 1002] (by repeat' first | exact zY.nil | apply zY.p rfl | apply zY.clo rfl | apply zY.skip) (by repeat' first | exact zW.nil | apply zW.boxP rfl rfl) ?_; (refine zZ.v rfl rfl (zU rfl rfl rfl (by decide)) ?_); (refine zZ.v rfl rfl (zQ rfl rfl rfl (by decide)) ?_); (refine zZ.v rfl rfl (zQ rfl rfl rfl (by decide)) ?_); (refine zZ.ofT rfl (zM.xA [1000, 1001] (c2) rfl (by decide) (zH rfl) (by rfl) (zD (by decide) rfl (by repeat' first | exact trivial | rfl | constructor)) rfl rfl rfl rfl ?_)); (refine zZ.v rfl rfl (zK rfl rfl rfl (by decide)) ?_); refine zZ.nil ?_) | (refine zX.isR (id := 1) ?_; refine zX.zV [0, 1, 2, 3, 4, 10, 29] [1000, 1001, 1002] (by repeat' first | exact zY.nil | apply zY.p rfl | apply zY.clo rfl | apply zY.skip) (by repeat' first | exact zW.nil | apply zW.boxP rfl rfl) ?_; all_goals (refine zZ.v rfl rfl (zU rfl rfl rfl (by decide)) ?_); all_goals (refine zZ.v rfl rfl (zQ rfl rfl rfl (by decide)) ?_); all_goals (refine zZ.ofT rfl (zM.xA [1002] (co) rfl (by decide) (yF rfl rfl) (by rfl) (zD (by decide) rfl (by repeat' first | exact trivial | rfl | constructor)) rfl rfl rfl rfl ?_)); all_goals (refine zZ.v rfl rfl (zQ rfl rfl rfl (by decide)) ?_); all_goals (refine zZ.gY rfl rfl (by decide) rfl (by with_reducible rfl) rfl (by decide) (zU rfl rfl rfl (by decide)) ?_); all_goals (refine zZ.gY rfl rfl (by decide) rfl (by with_reducible rfl) rfl (by decide) (zQ rfl rfl rfl (by decide)) ?_); all_goals (refine zZ.gY rfl rfl (by decide) rfl (by with_reducible rfl) rfl (by decide) (zQ rfl rfl rfl (by decide)) ?_); all_goals (refine zZ.gY rfl rfl (by decide) rfl (by with_reducible rfl) rfl (by decide) (by exact zL (cf) rfl rfl rfl (by decide)) ?_); all_goals (refine zZ.gY rfl rfl (by decide) rfl (by with_reducible rfl) rfl (by decide) (zQ rfl rfl rfl (by decide)) ?_); all_goals (refine zZ.gY rfl rfl (by decide) rfl (by with_reducible rfl) rfl (by decide) (zQ rfl rfl rfl (by decide)) ?_); all_goals (refine zZ.gY rfl rfl (by decide) rfl (by with_reducible rfl) rfl (by decide) (zQ rfl rfl rfl (by decide)) ?_); all_goals (refine zZ.gY rfl rfl (by decide) rfl (by with_reducible rfl) rfl (by decide) (by exact xQ rfl rfl (by exact hwb) rfl (by decide)) ?_); all_goals (refine zZ.gY rfl rfl (by decide) rfl (by with_reducible rfl) rfl (by decide) (by exact a_or rfl rfl rfl (by exact ho1) rfl (by decide)) ?_); all_goals (refine zZ.ofTg rfl rfl (by decide) rfl (by with_reducible rfl) (zM.ePan [1000, 1001] (cas_pan L hL.1 (yX t r 2) r0.n (r0.n + b)) (zH rfl) (by rfl) (zD (by decide) rfl (by repeat' first | exact trivial | rfl | constructor)) rfl rfl rfl rfl ?_)); all_goals (skip); all_goals (skip)) | refine zX.block ?_))
            all_goals exact ⟨rfl, rfl, yV (by repeat' first | exact trivial | rfl | constructor)⟩
          | cons r2 l2 =>
            obtain ⟨hr2, hl2⟩ := drop_at hl
            have hlt2 : j + 1 < L.length := (List.getElem?_eq_some_iff.1 hr2).1
            by_cases h21 : r2.n = 1
            · rw [hd, xU, if_neg hov1] at hjo
              rw [if_pos h21] at hjo
              obtain ⟨rfl, rfl⟩ := h1 _ hjo.symm
              have c3 := cas_ret L (j + 1) r2 hr2 hL.1 (yX t r 2) r0.n (r0.n + b)
              rw [decide_eq_true h21] at c3
              repeat' (first | (refine zX.is ?_; first | refine zX.seq ?_ | (refine zX.isR (id := 0) ?_; refine zX.zV [0, 1, 2, 3, 4, 10, 29] [1000, 1001, 1002] (by repeat' first | exact zY.nil | apply zY.p rfl | apply zY.clo rfl | apply zY.skip) (by repeat' first | exact zW.nil | apply zW.boxP rfl rfl) ?_; (refine zZ.v rfl rfl (zU rfl rfl rfl (by decide)) ?_); (refine zZ.v rfl rfl (zQ rfl rfl rfl (by decide)) ?_); (refine zZ.v rfl rfl (zQ rfl rfl rfl (by decide)) ?_); (refine zZ.ofT rfl (zM.xA [1000, 1001] (vY L j r0 hr0 hL t r h) rfl (by decide) (zH rfl) (by rfl) (zD (by decide) rfl (by repeat' first | exact trivial | rfl | constructor)) rfl rfl rfl rfl ?_)); (refine zZ.v rfl rfl (zK rfl rfl rfl (by decide)) ?_); refine zZ.nil ?_) | (refine zX.isR (id := 1) ?_; refine zX.zV [0, 1, 2, 3, 4, 10, 29] [1000, 1001, 1002] (by repeat' first | exact zY.nil | apply zY.p rfl | apply zY.clo rfl | apply zY.skip) (by repeat' first | exact zW.nil | apply zW.boxP rfl rfl) ?_; all_goals (refine zZ.v rfl rfl (zU rfl rfl rfl (by decide)) ?_); all_goals (refine zZ.v rfl rfl (zQ rfl rfl rfl (by decide)) ?_); all_goals (refine zZ.ofT rfl (zM.xA [1002] (co) rfl (by decide) (yF rfl rfl) (by rfl) (zD (by decide) rfl (by repeat' first | exact trivial | rfl | constructor)) rfl rfl rfl rfl ?_)); all_goals (refine zZ.v rfl rfl (zQ rfl rfl rfl (by decide)) ?_); all_goals (refine zZ.gY rfl rfl (by decide) rfl (by with_reducible rfl) rfl (by decide) (zU rfl rfl rfl (by decide)) ?_); all_goals (refine zZ.gY rfl rfl (by decide) rfl (by with_reducible rfl) rfl (by decide) (zQ rfl rfl rfl (by decide)) ?_); all_goals (refine zZ.gY rfl rfl (by decide) rfl (by with_reducible rfl) rfl (by decide) (zQ rfl rfl rfl (by decide)) ?_); all_goals (refine zZ.gY rfl rfl (by decide) rfl (by with_reducible rfl) rfl (by decide) (by exact zL (cf) rfl rfl rfl (by decide)) ?_); all_goals (refine zZ.gY rfl rfl (by decide) rfl (by with_reducible rfl) rfl (by decide) (zQ rfl rfl rfl (by decide)) ?_); all_goals (refine zZ.gY rfl rfl (by decide) rfl (by with_reducible rfl) rfl (by decide) (zQ rfl rfl rfl (by decide)) ?_); all_goals (refine zZ.gY rfl rfl (by decide) rfl (by with_reducible rfl) rfl (by decide) (zQ rfl rfl rfl (by decide)) ?_); all_goals (refine zZ.gY rfl rfl (by decide) rfl (by with_reducible rfl) rfl (by decide) (by exact xQ rfl rfl (by exact hwb) rfl (by decide)) ?_); all_goals (refine zZ.gY rfl rfl (by decide) rfl (by with_reducible rfl) rfl (by decide) (by exact a_or rfl rfl rfl (by exact ho1) rfl (by decide)) ?_); all_goals (refine zZ.ofTg rfl rfl (by decide) rfl (by with_reducible rfl) (zM.xA [1000, 1001] (c3) rfl (by decide) (zH rfl) (by rfl) (zD (by decide) rfl (by repeat' first | exact trivial | rfl | constructor)) rfl rfl rfl rfl ?_)); all_goals (refine zZ.v rfl rfl (by exact zR rfl rfl (by with_reducible rfl) rfl rfl (by decide)) ?_); all_goals (refine zZ.nil ?_)) | refine zX.yE rfl (by with_reducible rfl) ?_ | refine zX.block ?_ | refine zX.ret ?_) | refine yJ.r ?_ | refine xV.r ?_)
              all_goals exact ⟨(by exact .inl rfl), _, Sub.refl _, .none rfl, yV (by repeat' first | exact trivial | rfl | constructor)⟩
            · rw [hd, xU, if_neg hov1] at hjo
              rw [if_neg h21] at hjo
              have c3 := cas_ret L (j + 1) r2 hr2 hL.1 (yX t r 2) r0.n (r0.n + b)
              rw [decide_eq_false h21] at c3
              repeat' (first | (refine zX.is ?_; first | refine zX.seq ?_ | (refine zX.isR (id := 0) ?_; refine zX.zV [0, 1, 2, 3, 4, 10, 29] [1000, 1001, 1002] (by repeat' first | exact zY.nil | apply zY.p rfl | apply zY.clo rfl | apply zY.skip) (by repeat' first | exact zW.nil | apply zW.boxP rfl rfl) ?_; (refine zZ.v rfl rfl (zU rfl rfl rfl (by decide)) ?_); (refine zZ.v rfl rfl (zQ rfl rfl rfl (by decide)) ?_); (refine zZ.v rfl rfl (zQ rfl rfl rfl (by decide)) ?_); (refine zZ.ofT rfl (zM.xA [1000, 1001] (vY L j r0 hr0 hL t r h) rfl (by decide) (zH rfl) (by rfl) (zD (by decide) rfl (by repeat' first | exact trivial | rfl | constructor)) rfl rfl rfl rfl ?_)); (refine zZ.v rfl rfl (zK rfl rfl rfl (by decide)) ?_); refine zZ.nil ?_) | (refine zX.isR (id := 1) ?_; refine zX.zV [0, 1, 2, 3, 4, 10, 29] [1000, 1001, 1002] (by repeat' first | exact zY.nil | apply zY.p rfl | apply zY.clo rfl | apply zY.skip) (by repeat' first | exact zW.nil | apply zW.boxP rfl rfl) ?_; all_goals (refine zZ.v rfl rfl (zU rfl rfl rfl (by decide)) ?_); all_goals (refine zZ.v rfl rfl (zQ rfl rfl rfl (by decide)) ?_); all_goals (refine zZ.ofT rfl (zM.xA [1002] (co) rfl (by decide) (yF rfl rfl) (by rfl) (zD (by decide) rfl (by repeat' first | exact trivial | rfl | constructor)) rfl rfl rfl rfl ?_)); all_goals (refine zZ.v rfl rfl (zQ rfl rfl rfl (by decide)) ?_); all_goals (refine zZ.gY rfl rfl (by decide) rfl (by with_reducible rfl) rfl (by decide) (zU rfl rfl rfl (by decide)) ?_); all_goals (refine zZ.gY rfl rfl (by decide) rfl (by with_reducible rfl) rfl (by decide) (zQ rfl rfl rfl (by decide)) ?_); all_goals (refine zZ.gY rfl rfl (by decide) rfl (by with_reducible rfl) rfl (by decide) (zQ rfl rfl rfl (by decide)) ?_); all_goals (refine zZ.gY rfl rfl (by decide) rfl (by with_reducible rfl) rfl (by decide) (by exact zL (cf) rfl rfl rfl (by decide)) ?_); all_goals (refine zZ.gY rfl rfl (by decide) rfl (by with_reducible rfl) rfl (by decide) (zQ rfl rfl rfl (by decide)) ?_); all_goals (refine zZ.gY rfl rfl (by decide) rfl (by with_reducible rfl) rfl (by decide) (zQ rfl rfl rfl (by decide)) ?_); all_goals (refine zZ.gY rfl rfl (by decide) rfl (by with_reducible rfl) rfl (by decide) (zQ rfl rfl rfl (by decide)) ?_); all_goals (refine zZ.gY rfl rfl (by decide) rfl (by with_reducible rfl) rfl (by decide) (by exact xQ rfl rfl (by exact hwb) rfl (by decide)) ?_); all_goals (refine zZ.gY rfl rfl (by decide) rfl (by with_reducible rfl) rfl (by decide) (by exact a_or rfl rfl rfl (by exact ho1) rfl (by decide)) ?_); all_goals (refine zZ.ofTg rfl rfl (by decide) rfl (by with_reducible rfl) (zM.xA [1000, 1001] (c3) rfl (by decide) (zH rfl) (by rfl) (zD (by decide) rfl (by repeat' first | exact trivial | rfl | constructor)) rfl rfl rfl rfl ?_)); all_goals (refine zZ.v rfl rfl (by exact zR rfl rfl (by with_reducible rfl) rfl rfl (by decide)) ?_); all_goals (refine zZ.nil ?_)) | refine zX.yG rfl (by first | assumption | with_reducible rfl) ?_ | refine zX.skip ?_ | refine zX.block ?_) | refine yJ.n ?_ | refine xV.n ?_)
              refine ⟨j + 2, ?_, ⟨by omega, by rw [show j + 2 = j + 1 + 1 from rfl, hl2]; exact hjo⟩, by omega⟩
              refine yY (is := [0, 1, 2, 3, 4]) (js := [1000, 1001, 1002]) ?_ ?_
              repeat' first | exact zY.nil | apply zY.p rfl | apply zY.ptr rfl | apply zY.own rfl | apply zY.clo rfl | apply zY.pt rfl | apply zY.tup rfl | apply zY.skip
              repeat' first | exact zW.nil | apply zW.boxP rfl rfl | apply zW.yH rfl | apply zW.some rfl | apply zW.skip
  cases ho : xU (ov1 b) (yX t r 2) b (L.drop i) i with
  | done x j => exact main _ _ (fun j' h' => by rw [ho] at h'; cases h'; exact ⟨rfl, rfl⟩) (fun q h' => by rw [ho] at h'; cases h')
  | need q => exact main _ _ (fun j' h' => by rw [ho] at h'; cases h') (fun q' h' => by rw [ho] at h'; cases h'; exact ⟨rfl, rfl⟩)
/-- what holds of set's end -/
def SetE2 (L : List zO) (t r b : Int) (k s y u v x : Int) (i : Nat) (o : Told Unit) : Prop := match o with
  | .done _ j => FnE Tryz.prog 42 [doA, .p (.val (.int .i64 t)), .p (.val (.int .i64 r)), .p (.val (.int .i64 b)), .clo 67 [1002, 1003]] [atB i, xM L, entB k s y u v x, xG b] (.ret .any) [atB j, xM L, entB k s y u v x, xG b]
  | .need q => FnE Tryz.prog 42 [doA, .p (.val (.int .i64 t)), .p (.val (.int .i64 r)), .p (.val (.int .i64 b)), .clo 67 [1002, 1003]] [atB i, xM L, entB k s y u v x, xG b] (.pan (needA (xP q.kind q.cell q.a q.b q.d))) [atB L.length, xM L, entB k s y u v x, xG b]
def setS2 (L : List zO) (t r b : Int) (k s y u v x : Int) (i : Nat) : AS :=
  { t := [(0, doA), (1, .p (.val (.int .i64 t))), (2, .p (.val (.int .i64 r))), (3, .p (.val (.int .i64 b))), (4, .clo 67 [1002, 1003])], s := [(1000, atB i), (1001, xM L), (1002, entB k s y u v x), (1003, xG b)] }
theorem set2_fn (L : List zO) (hL : yC L) (t r b : Int) (h : Rec t r) (hb : b = 1 ∨ b = 2) (k s y u v x : Int) (i : Nat) (hi : i ≤ L.length) : SetE2 L t r b k s y u v x i (xU (over2 s b) (yX t r 2) b (L.drop i) i) := by
  have cf := field_fn t r 2 h.1 ⟨by have := h.2.1; omega, h.2.2⟩ (by unfold Small; omega)
  have hov : ∀ f, (over2 s b) f = false → hasF f b = false := fun f hf => by unfold over2 at hf; simp only [Bool.or_eq_false_iff] at hf; exact hf.2
  have hwb : IntKind.u64.wrap b = b := wrap_u64 _ (by omega)
  have main : ∀ (ev : EV) (B' : List Blk), (∀ j, xU (over2 s b) (yX t r 2) b (L.drop i) i = .done () j → ev = .ret .any ∧ B' = [atB j, xM L, entB k s y u v x, xG b]) → (∀ q, xU (over2 s b) (yX t r 2) b (L.drop i) i = .need q → ev = .pan (needA (xP q.kind q.cell q.a q.b q.d)) ∧ B' = [atB L.length, xM L, entB k s y u v x, xG b]) →
      FnE Tryz.prog 42 [doA, .p (.val (.int .i64 t)), .p (.val (.int .i64 r)), .p (.val (.int .i64 b)), .clo 67 [1002, 1003]] [atB i, xM L, entB k s y u v x, xG b] ev B' := by
    intro ev B' h1 h2
    refine yS Tryz.func42 rfl Tryz.ntmps42 (Nat.le_of_ble_eq_true rfl) (by decide) ?_
    repeat' ((refine zX.is ?_; refine zX.block ?_))
    refine zX.loop (setS2 L t r b k s y u v x) (fun j => j ≤ L.length ∧ xU (over2 s b) (yX t r 2) b (L.drop j) j = xU (over2 s b) (yX t r 2) b (L.drop i) i) (fun j => L.length - j) i ?h0 ⟨hi, rfl⟩ ?rd
    case h0 =>
      refine yY (is := [0, 1, 2, 3, 4]) (js := [1000, 1001, 1002,1003]) ?_ ?_
      repeat' first | exact zY.nil | apply zY.p rfl | apply zY.ptr rfl | apply zY.own rfl | apply zY.clo rfl | apply zY.pt rfl | apply zY.tup rfl | apply zY.skip
      repeat' first | exact zW.nil | apply zW.boxP rfl rfl | apply zW.yH rfl | apply zW.some rfl | apply zW.skip
    case rd =>
      rintro j ⟨hj, hjo⟩
      cases hd : L.drop j with
      | nil =>
        obtain rfl := vB hj hd
        rw [hd] at hjo
        obtain ⟨rfl, rfl⟩ := h2 _ hjo.symm
        repeat' (first | (refine zZ.is ?_; first | refine zZ.v rfl rfl (by first | exact zQ rfl rfl rfl (by decide) | exact zU rfl rfl rfl (by decide)) ?_ | refine zZ.ofT rfl (zM.ePan [1000, 1001] (flagD_pan L hL t r h) (zH rfl) (by rfl) (zD (by decide) rfl (by repeat' first | exact trivial | rfl | constructor)) rfl rfl rfl rfl ?_)) | (refine zX.is ?_; first | refine zX.seq ?_ | (refine zX.isR (id := 0) ?_; refine zX.zV [0, 1, 2, 3, 4, 10, 29] [1000, 1001, 1002, 1003] (by repeat' first | exact zY.nil | apply zY.p rfl | apply zY.clo rfl | apply zY.skip) (by repeat' first | exact zW.nil | apply zW.boxP rfl rfl) ?_) | refine zX.block ?_))
        all_goals exact ⟨rfl, rfl, yV (by repeat' first | exact trivial | rfl | constructor)⟩
      | cons r0 l =>
        obtain ⟨hr0, hl⟩ := drop_at hd
        have hlt : j < L.length := (List.getElem?_eq_some_iff.1 hr0).1
        have hn := hL.at hr0
        have co := over2_fn r0.n k s y u v x b hn.1 hn.2
        by_cases hov1 : (over2 s b) r0.n = true
        · rw [hd, setL_over hov1] at hjo
          obtain ⟨rfl, rfl⟩ := h1 _ hjo.symm
          rw [hov1] at co
          repeat' (first | (refine zX.is ?_; first | refine zX.seq ?_ | (refine zX.isR (id := 0) ?_; refine zX.zV [0, 1, 2, 3, 4, 10, 29] [1000, 1001, 1002, 1003] (by repeat' first | exact zY.nil | apply zY.p rfl | apply zY.clo rfl | apply zY.skip) (by repeat' first | exact zW.nil | apply zW.boxP rfl rfl) ?_; (refine zZ.v rfl rfl (zU rfl rfl rfl (by decide)) ?_); (refine zZ.v rfl rfl (zQ rfl rfl rfl (by decide)) ?_); (refine zZ.v rfl rfl (zQ rfl rfl rfl (by decide)) ?_); (refine zZ.ofT rfl (zM.xA [1000, 1001] (vY L j r0 hr0 hL t r h) rfl (by decide) (zH rfl) (by rfl) (zD (by decide) rfl (by repeat' first | exact trivial | rfl | constructor)) rfl rfl rfl rfl ?_)); (refine zZ.v rfl rfl (zK rfl rfl rfl (by decide)) ?_); refine zZ.nil ?_) | (refine zX.isR (id := 1) ?_; refine zX.zV [0, 1, 2, 3, 4, 10, 29] [1000, 1001, 1002, 1003] (by repeat' first | exact zY.nil | apply zY.p rfl | apply zY.clo rfl | apply zY.skip) (by repeat' first | exact zW.nil | apply zW.boxP rfl rfl) ?_; all_goals (refine zZ.v rfl rfl (zU rfl rfl rfl (by decide)) ?_); all_goals (refine zZ.v rfl rfl (zQ rfl rfl rfl (by decide)) ?_); all_goals (refine zZ.ofT rfl (zM.xA [1002, 1003] (co) rfl (by decide) (yF rfl rfl) (by rfl) (zD (by decide) rfl (by repeat' first | exact trivial | rfl | constructor)) rfl rfl rfl rfl ?_)); all_goals (refine zZ.v rfl rfl (zQ rfl rfl rfl (by decide)) ?_); all_goals (refine zZ.gnF rfl rfl (by decide) rfl (by with_reducible rfl) rfl (by decide) ?_); all_goals (refine zZ.gnF rfl rfl (by decide) rfl (by with_reducible rfl) rfl (by decide) ?_); all_goals (refine zZ.gnF rfl rfl (by decide) rfl (by with_reducible rfl) rfl (by decide) ?_); all_goals (refine zZ.gnF rfl rfl (by decide) rfl (by with_reducible rfl) rfl (by decide) ?_); all_goals (refine zZ.gnF rfl rfl (by decide) rfl (by with_reducible rfl) rfl (by decide) ?_); all_goals (refine zZ.gnF rfl rfl (by decide) rfl (by with_reducible rfl) rfl (by decide) ?_); all_goals (refine zZ.gnF rfl rfl (by decide) rfl (by with_reducible rfl) rfl (by decide) ?_); all_goals (refine zZ.gnF rfl rfl (by decide) rfl (by with_reducible rfl) rfl (by decide) ?_); all_goals (refine zZ.gnF rfl rfl (by decide) rfl (by with_reducible rfl) rfl (by decide) ?_); all_goals (refine zZ.gnF rfl rfl (by decide) rfl (by with_reducible rfl) rfl (by decide) ?_); all_goals (refine zZ.v rfl rfl (by exact zT rfl rfl (by with_reducible rfl) rfl rfl (by decide)) ?_); all_goals (refine zZ.nil ?_)) | refine zX.yE rfl (by first | assumption | with_reducible rfl) ?_ | refine zX.block ?_ | refine zX.ret ?_) | refine yJ.r ?_ | refine xV.r ?_)
          all_goals exact ⟨(by exact .inl rfl), _, Sub.refl _, .none rfl, yV (by repeat' first | exact trivial | rfl | constructor)⟩
        · have hov0 : (over2 s b) r0.n = false := by simpa using hov1
          rw [hov0] at co
          obtain ⟨ho1, ho2⟩ := orBit r0.n b hn.1 hn.2 hb (hov _ hov0)
          cases l with
          | nil =>
            rw [hd, xU, if_neg hov1] at hjo
            obtain ⟨rfl, rfl⟩ := h2 _ hjo.symm
            have he := vB (by omega) hl
            have c2 := vY L j r0 hr0 hL t r h
            rw [he] at c2
            repeat' ((refine zX.is ?_; first | refine zX.seq ?_ | (refine zX.isR (id := 0) ?_; refine zX.zV [0, 1, 2, 3, 4, 10, 29] [1000, 1001, 1002, 1003] (by repeat' first | exact zY.nil | apply zY.p rfl | apply zY.clo rfl | apply zY.skip) (by repeat' first | exact zW.nil | apply zW.boxP rfl rfl) ?_; (refine zZ.v rfl rfl (zU rfl rfl rfl (by decide)) ?_); (refine zZ.v rfl rfl (zQ rfl rfl rfl (by decide)) ?_); (refine zZ.v rfl rfl (zQ rfl rfl rfl (by decide)) ?_); (refine zZ.ofT rfl (zM.xA [1000, 1001] (c2) rfl (by decide) (zH rfl) (by rfl) (zD (by decide) rfl (by repeat' first | exact trivial | rfl | constructor)) rfl rfl rfl rfl ?_)); (refine zZ.v rfl rfl (zK rfl rfl rfl (by decide)) ?_); refine zZ.nil ?_) | (refine zX.isR (id := 1) ?_; refine zX.zV [0, 1, 2, 3, 4, 10, 29] [1000, 1001, 1002, 1003] (by repeat' first | exact zY.nil | apply zY.p rfl | apply zY.clo rfl | apply zY.skip) (by repeat' first | exact zW.nil | apply zW.boxP rfl rfl) ?_; all_goals (refine zZ.v rfl rfl (zU rfl rfl rfl (by decide)) ?_); all_goals (refine zZ.v rfl rfl (zQ rfl rfl rfl (by decide)) ?_); all_goals (refine zZ.ofT rfl (zM.xA [1002, 1003] (co) rfl (by decide) (yF rfl rfl) (by rfl) (zD (by decide) rfl (by repeat' first | exact trivial | rfl | constructor)) rfl rfl rfl rfl ?_)); all_goals (refine zZ.v rfl rfl (zQ rfl rfl rfl (by decide)) ?_); all_goals (refine zZ.gY rfl rfl (by decide) rfl (by with_reducible rfl) rfl (by decide) (zU rfl rfl rfl (by decide)) ?_); all_goals (refine zZ.gY rfl rfl (by decide) rfl (by with_reducible rfl) rfl (by decide) (zQ rfl rfl rfl (by decide)) ?_); all_goals (refine zZ.gY rfl rfl (by decide) rfl (by with_reducible rfl) rfl (by decide) (zQ rfl rfl rfl (by decide)) ?_); all_goals (refine zZ.gY rfl rfl (by decide) rfl (by with_reducible rfl) rfl (by decide) (by exact zL (cf) rfl rfl rfl (by decide)) ?_); all_goals (refine zZ.gY rfl rfl (by decide) rfl (by with_reducible rfl) rfl (by decide) (zQ rfl rfl rfl (by decide)) ?_); all_goals (refine zZ.gY rfl rfl (by decide) rfl (by with_reducible rfl) rfl (by decide) (zQ rfl rfl rfl (by decide)) ?_); all_goals (refine zZ.gY rfl rfl (by decide) rfl (by with_reducible rfl) rfl (by decide) (zQ rfl rfl rfl (by decide)) ?_); all_goals (refine zZ.gY rfl rfl (by decide) rfl (by with_reducible rfl) rfl (by decide) (by exact xQ rfl rfl (by exact hwb) rfl (by decide)) ?_); all_goals (refine zZ.gY rfl rfl (by decide) rfl (by with_reducible rfl) rfl (by decide) (by exact a_or rfl rfl rfl (by exact ho1) rfl (by decide)) ?_); all_goals (refine zZ.ofTg rfl rfl (by decide) rfl (by with_reducible rfl) (zM.ePan [1000, 1001] (cas_pan L hL.1 (yX t r 2) r0.n (r0.n + b)) (zH rfl) (by rfl) (zD (by decide) rfl (by repeat' first | exact trivial | rfl | constructor)) rfl rfl rfl rfl ?_)); all_goals (skip); all_goals (skip)) | refine zX.block ?_))
            all_goals exact ⟨rfl, rfl, yV (by repeat' first | exact trivial | rfl | constructor)⟩
          | cons r2 l2 =>
            obtain ⟨hr2, hl2⟩ := drop_at hl
            have hlt2 : j + 1 < L.length := (List.getElem?_eq_some_iff.1 hr2).1
            by_cases h21 : r2.n = 1
            · rw [hd, xU, if_neg hov1] at hjo
              rw [if_pos h21] at hjo
              obtain ⟨rfl, rfl⟩ := h1 _ hjo.symm
              have c3 := cas_ret L (j + 1) r2 hr2 hL.1 (yX t r 2) r0.n (r0.n + b)
              rw [decide_eq_true h21] at c3
              repeat' (first | (refine zX.is ?_; first | refine zX.seq ?_ | (refine zX.isR (id := 0) ?_; refine zX.zV [0, 1, 2, 3, 4, 10, 29] [1000, 1001, 1002, 1003] (by repeat' first | exact zY.nil | apply zY.p rfl | apply zY.clo rfl | apply zY.skip) (by repeat' first | exact zW.nil | apply zW.boxP rfl rfl) ?_; (refine zZ.v rfl rfl (zU rfl rfl rfl (by decide)) ?_); (refine zZ.v rfl rfl (zQ rfl rfl rfl (by decide)) ?_); (refine zZ.v rfl rfl (zQ rfl rfl rfl (by decide)) ?_); (refine zZ.ofT rfl (zM.xA [1000, 1001] (vY L j r0 hr0 hL t r h) rfl (by decide) (zH rfl) (by rfl) (zD (by decide) rfl (by repeat' first | exact trivial | rfl | constructor)) rfl rfl rfl rfl ?_)); (refine zZ.v rfl rfl (zK rfl rfl rfl (by decide)) ?_); refine zZ.nil ?_) | (refine zX.isR (id := 1) ?_; refine zX.zV [0, 1, 2, 3, 4, 10, 29] [1000, 1001, 1002, 1003] (by repeat' first | exact zY.nil | apply zY.p rfl | apply zY.clo rfl | apply zY.skip) (by repeat' first | exact zW.nil | apply zW.boxP rfl rfl) ?_; all_goals (refine zZ.v rfl rfl (zU rfl rfl rfl (by decide)) ?_); all_goals (refine zZ.v rfl rfl (zQ rfl rfl rfl (by decide)) ?_); all_goals (refine zZ.ofT rfl (zM.xA [1002, 1003] (co) rfl (by decide) (yF rfl rfl) (by rfl) (zD (by decide) rfl (by repeat' first | exact trivial | rfl | constructor)) rfl rfl rfl rfl ?_)); all_goals (refine zZ.v rfl rfl (zQ rfl rfl rfl (by decide)) ?_); all_goals (refine zZ.gY rfl rfl (by decide) rfl (by with_reducible rfl) rfl (by decide) (zU rfl rfl rfl (by decide)) ?_); all_goals (refine zZ.gY rfl rfl (by decide) rfl (by with_reducible rfl) rfl (by decide) (zQ rfl rfl rfl (by decide)) ?_); all_goals (refine zZ.gY rfl rfl (by decide) rfl (by with_reducible rfl) rfl (by decide) (zQ rfl rfl rfl (by decide)) ?_); all_goals (refine zZ.gY rfl rfl (by decide) rfl (by with_reducible rfl) rfl (by decide) (by exact zL (cf) rfl rfl rfl (by decide)) ?_); all_goals (refine zZ.gY rfl rfl (by decide) rfl (by with_reducible rfl) rfl (by decide) (zQ rfl rfl rfl (by decide)) ?_); all_goals (refine zZ.gY rfl rfl (by decide) rfl (by with_reducible rfl) rfl (by decide) (zQ rfl rfl rfl (by decide)) ?_); all_goals (refine zZ.gY rfl rfl (by decide) rfl (by with_reducible rfl) rfl (by decide) (zQ rfl rfl rfl (by decide)) ?_); all_goals (refine zZ.gY rfl rfl (by decide) rfl (by with_reducible rfl) rfl (by decide) (by exact xQ rfl rfl (by exact hwb) rfl (by decide)) ?_); all_goals (refine zZ.gY rfl rfl (by decide) rfl (by with_reducible rfl) rfl (by decide) (by exact a_or rfl rfl rfl (by exact ho1) rfl (by decide)) ?_); all_goals (refine zZ.ofTg rfl rfl (by decide) rfl (by with_reducible rfl) (zM.xA [1000, 1001] (c3) rfl (by decide) (zH rfl) (by rfl) (zD (by decide) rfl (by repeat' first | exact trivial | rfl | constructor)) rfl rfl rfl rfl ?_)); all_goals (refine zZ.v rfl rfl (by exact zR rfl rfl (by with_reducible rfl) rfl rfl (by decide)) ?_); all_goals (refine zZ.nil ?_)) | refine zX.yE rfl (by with_reducible rfl) ?_ | refine zX.block ?_ | refine zX.ret ?_) | refine yJ.r ?_ | refine xV.r ?_)
              all_goals exact ⟨(by exact .inl rfl), _, Sub.refl _, .none rfl, yV (by repeat' first | exact trivial | rfl | constructor)⟩
            · rw [hd, xU, if_neg hov1] at hjo
              rw [if_neg h21] at hjo
              have c3 := cas_ret L (j + 1) r2 hr2 hL.1 (yX t r 2) r0.n (r0.n + b)
              rw [decide_eq_false h21] at c3
              repeat' (first | (refine zX.is ?_; first | refine zX.seq ?_ | (refine zX.isR (id := 0) ?_; refine zX.zV [0, 1, 2, 3, 4, 10, 29] [1000, 1001, 1002, 1003] (by repeat' first | exact zY.nil | apply zY.p rfl | apply zY.clo rfl | apply zY.skip) (by repeat' first | exact zW.nil | apply zW.boxP rfl rfl) ?_; (refine zZ.v rfl rfl (zU rfl rfl rfl (by decide)) ?_); (refine zZ.v rfl rfl (zQ rfl rfl rfl (by decide)) ?_); (refine zZ.v rfl rfl (zQ rfl rfl rfl (by decide)) ?_); (refine zZ.ofT rfl (zM.xA [1000, 1001] (vY L j r0 hr0 hL t r h) rfl (by decide) (zH rfl) (by rfl) (zD (by decide) rfl (by repeat' first | exact trivial | rfl | constructor)) rfl rfl rfl rfl ?_)); (refine zZ.v rfl rfl (zK rfl rfl rfl (by decide)) ?_); refine zZ.nil ?_) | (refine zX.isR (id := 1) ?_; refine zX.zV [0, 1, 2, 3, 4, 10, 29] [1000, 1001, 1002, 1003] (by repeat' first | exact zY.nil | apply zY.p rfl | apply zY.clo rfl | apply zY.skip) (by repeat' first | exact zW.nil | apply zW.boxP rfl rfl) ?_; all_goals (refine zZ.v rfl rfl (zU rfl rfl rfl (by decide)) ?_); all_goals (refine zZ.v rfl rfl (zQ rfl rfl rfl (by decide)) ?_); all_goals (refine zZ.ofT rfl (zM.xA [1002, 1003] (co) rfl (by decide) (yF rfl rfl) (by rfl) (zD (by decide) rfl (by repeat' first | exact trivial | rfl | constructor)) rfl rfl rfl rfl ?_)); all_goals (refine zZ.v rfl rfl (zQ rfl rfl rfl (by decide)) ?_); all_goals (refine zZ.gY rfl rfl (by decide) rfl (by with_reducible rfl) rfl (by decide) (zU rfl rfl rfl (by decide)) ?_); all_goals (refine zZ.gY rfl rfl (by decide) rfl (by with_reducible rfl) rfl (by decide) (zQ rfl rfl rfl (by decide)) ?_); all_goals (refine zZ.gY rfl rfl (by decide) rfl (by with_reducible rfl) rfl (by decide) (zQ rfl rfl rfl (by decide)) ?_); all_goals (refine zZ.gY rfl rfl (by decide) rfl (by with_reducible rfl) rfl (by decide) (by exact zL (cf) rfl rfl rfl (by decide)) ?_); all_goals (refine zZ.gY rfl rfl (by decide) rfl (by with_reducible rfl) rfl (by decide) (zQ rfl rfl rfl (by decide)) ?_); all_goals (refine zZ.gY rfl rfl (by decide) rfl (by with_reducible rfl) rfl (by decide) (zQ rfl rfl rfl (by decide)) ?_); all_goals (refine zZ.gY rfl rfl (by decide) rfl (by with_reducible rfl) rfl (by decide) (zQ rfl rfl rfl (by decide)) ?_); all_goals (refine zZ.gY rfl rfl (by decide) rfl (by with_reducible rfl) rfl (by decide) (by exact xQ rfl rfl (by exact hwb) rfl (by decide)) ?_); all_goals (refine zZ.gY rfl rfl (by decide) rfl (by with_reducible rfl) rfl (by decide) (by exact a_or rfl rfl rfl (by exact ho1) rfl (by decide)) ?_); all_goals (refine zZ.ofTg rfl rfl (by decide) rfl (by with_reducible rfl) (zM.xA [1000, 1001] (c3) rfl (by decide) (zH rfl) (by rfl) (zD (by decide) rfl (by repeat' first | exact trivial | rfl | constructor)) rfl rfl rfl rfl ?_)); all_goals (refine zZ.v rfl rfl (by exact zR rfl rfl (by with_reducible rfl) rfl rfl (by decide)) ?_); all_goals (refine zZ.nil ?_)) | refine zX.yG rfl (by first | assumption | with_reducible rfl) ?_ | refine zX.skip ?_ | refine zX.block ?_) | refine yJ.n ?_ | refine xV.n ?_)
              refine ⟨j + 2, ?_, ⟨by omega, by rw [show j + 2 = j + 1 + 1 from rfl, hl2]; exact hjo⟩, by omega⟩
              refine yY (is := [0, 1, 2, 3, 4]) (js := [1000, 1001, 1002,1003]) ?_ ?_
              repeat' first | exact zY.nil | apply zY.p rfl | apply zY.ptr rfl | apply zY.own rfl | apply zY.clo rfl | apply zY.pt rfl | apply zY.tup rfl | apply zY.skip
              repeat' first | exact zW.nil | apply zW.boxP rfl rfl | apply zW.yH rfl | apply zW.some rfl | apply zW.skip
  cases ho : xU (over2 s b) (yX t r 2) b (L.drop i) i with
  | done x j => exact main _ _ (fun j' h' => by rw [ho] at h'; cases h'; exact ⟨rfl, rfl⟩) (fun q h' => by rw [ho] at h'; cases h')
  | need q => exact main _ _ (fun j' h' => by rw [ho] at h'; cases h') (fun q' h' => by rw [ho] at h'; cases h'; exact ⟨rfl, rfl⟩)
end Go.Proofs.YtlfkofkdigmnpaaGreatDoor
/- The check of bytes: plain laws. -/
namespace Go.Proofs.YtlfkofkdigmnpaaGreatDoor
set_option maxRecDepth 100000
set_option maxHeartbeats 16000000
open Go Go.RowKit
def tblN (j : Nat) : Nat := (tbl0.getD j (.u32, 0)).2.toNat
def nibN (s : Nat) : Nat := s / 16 ^^^ tblN (s % 16)
def byteN (s c : Nat) : Nat := nibN (nibN (s ^^^ c))
def crcN (s : Nat) (bs : List Int) : Nat := bs.foldl (fun s c => byteN s c.toNat) s
def bitN (s : Nat) : Nat := if s % 2 = 1 then s / 2 ^^^ 3988292384 else s / 2
def bitsN : Nat → Nat → Nat
  | 0, s => s
  | k + 1, s => bitN (bitsN k s)
/-- a check that is gone on with -/
def vC (sum : Nat) (bs : List Int) : Nat := 4294967295 - crcN (4294967295 - sum) bs
theorem xor_half (a b : Nat) : (a ^^^ b) / 2 = a / 2 ^^^ b / 2 := by
  apply Nat.eq_of_testBit_eq
  intro i
  rw [Nat.testBit_xor, Nat.testBit_div_two, Nat.testBit_div_two, Nat.testBit_div_two, Nat.testBit_xor]
theorem xor_par (a b : Nat) : (a ^^^ b) % 2 = (a % 2 + b % 2) % 2 := by
  have h := Nat.testBit_xor a b 0
  simp only [Nat.testBit_zero] at h
  have ha : a % 2 = 0 ∨ a % 2 = 1 := by omega
  have hb : b % 2 = 0 ∨ b % 2 = 1 := by omega
  have hc : (a ^^^ b) % 2 = 0 ∨ (a ^^^ b) % 2 = 1 := by omega
  rcases ha with ha | ha <;> rcases hb with hb | hb <;> rcases hc with hc | hc <;> rw [ha, hb, hc] at h <;> rw [ha, hb, hc] <;> first | rfl | exact absurd h (by decide)
theorem bit_xor (a b : Nat) : bitN (a ^^^ b) = bitN a ^^^ bitN b := by
  unfold bitN
  rw [xor_half, xor_par]
  have ha : a % 2 = 0 ∨ a % 2 = 1 := by omega
  have hb : b % 2 = 0 ∨ b % 2 = 1 := by omega
  rcases ha with ha | ha <;> rcases hb with hb | hb <;> simp only [ha, hb]
  · simp
  · simp [Nat.xor_assoc]
  · rw [if_pos (by decide), if_pos trivial, if_neg (by decide)]
    rw [Nat.xor_assoc, Nat.xor_assoc, Nat.xor_comm (b / 2)]
  · rw [if_neg (by decide), if_pos trivial, if_pos trivial]
    rw [Nat.xor_assoc, ← Nat.xor_assoc 3988292384, Nat.xor_comm 3988292384 (b / 2), Nat.xor_assoc, Nat.xor_self, Nat.xor_zero]
theorem bit_even (h : Nat) : bitN (2 * h) = h := by
  unfold bitN
  rw [if_neg (by omega)]
  omega
theorem split16 (s : Nat) : s = (16 * (s / 16)) ^^^ (s % 16) := by
  apply Nat.eq_of_testBit_eq
  intro i
  have e1 : 16 * (s / 16) = 2 ^ 4 * (s / 2 ^ 4) := rfl
  have e2 : s % 16 = s % 2 ^ 4 := rfl
  rw [Nat.testBit_xor, e1, e2, Nat.testBit_two_pow_mul, Nat.testBit_mod_two_pow, Nat.testBit_div_two_pow]
  by_cases hi : i < 4
  · simp [hi, Nat.not_le.2 hi]
  · have h4 : 4 ≤ i := by omega
    have e3 : i - 4 + 4 = i := by omega
    simp [hi, h4, e3]
theorem nib_low : ∀ l, l < 16 → bitN (bitN (bitN (bitN l))) = tblN l := by decide +kernel
theorem nib_bits (s : Nat) : nibN s = bitN (bitN (bitN (bitN s))) := by
  have h16 : bitN (bitN (bitN (bitN (16 * (s / 16))))) = s / 16 := by
    have e : 16 * (s / 16) = 2 * (2 * (2 * (2 * (s / 16)))) := by omega
    rw [e, bit_even, bit_even, bit_even, bit_even]
  conv => rhs; rw [split16 s]
  rw [bit_xor, bit_xor, bit_xor, bit_xor, h16, nib_low _ (by omega)]
  rfl
theorem byte_bits (s c : Nat) : byteN s c = bitsN 8 (s ^^^ c) := by
  unfold byteN
  rw [nib_bits, nib_bits]
  rfl
theorem tblN_lt : ∀ j, j < 16 → tblN j < 4294967296 := by decide +kernel
theorem nib_lt {s : Nat} (h : s < 4294967296) : nibN s < 4294967296 := by
  have h1 := tblN_lt (s % 16) (by omega)
  exact Nat.xor_lt_two_pow (n := 32) (by omega) h1
theorem byte_lt {s c : Nat} (h : s < 4294967296) (hc : c < 256) : byteN s c < 4294967296 := nib_lt (nib_lt (Nat.xor_lt_two_pow (n := 32) h (by omega)))
theorem bit_lt {s : Nat} (h : s < 4294967296) : bitN s < 4294967296 := by
  unfold bitN
  split
  · exact Nat.xor_lt_two_pow (n := 32) (by omega) (by decide)
  · omega
theorem bits_lt (k : Nat) {s : Nat} (h : s < 4294967296) : bitsN k s < 4294967296 := by
  induction k with
  | zero => exact h
  | succ k ih => exact bit_lt ih
theorem crc_lt (bs : List Int) (hb : ∀ x ∈ bs, 0 ≤ x ∧ x < 256) : ∀ s, s < 4294967296 → crcN s bs < 4294967296 := by
  induction bs with
  | nil => intro s h; exact h
  | cons c r ih =>
    intro s h
    have := hb c (by simp)
    exact ih (fun x hx => hb x (by simp [hx])) _ (byte_lt h (by omega))
theorem crc_take (s : Nat) (b : List Int) (i : Nat) (h : i < b.length) : crcN s (b.take (i + 1)) = byteN (crcN s (b.take i)) (b.getD i 0).toNat := by
  have e : b.take (i + 1) = b.take i ++ [b.getD i 0] := by
    rw [List.take_add_one, List.getElem?_eq_getElem h]
    simp [List.getD, h]
  unfold crcN
  rw [e, List.foldl_append]
  rfl
theorem compl32 (n : Nat) (h : n < 4294967296) : 4294967295 ^^^ n = 4294967295 - n := by
  have h1 : (BitVec.allOnes 32 ^^^ BitVec.ofNat 32 n).toNat = (~~~ (BitVec.ofNat 32 n)).toNat := by rw [BitVec.allOnes_xor]
  rw [BitVec.toNat_xor, BitVec.toNat_not, BitVec.toNat_allOnes, BitVec.toNat_ofNat, Nat.mod_eq_of_lt (by omega)] at h1
  simpa using h1
theorem xor_max (n : Nat) (h : n < 4294967296) : bits .xor .u32 (IntKind.max .u32) (n : Int) = ((4294967295 - n : Nat) : Int) := by
  have : (IntKind.max .u32) = ((4294967295 : Nat) : Int) := by decide
  rw [this, u32_xor_nat 4294967295 n (by decide) h, compl32 n h]
end Go.Proofs.YtlfkofkdigmnpaaGreatDoor
