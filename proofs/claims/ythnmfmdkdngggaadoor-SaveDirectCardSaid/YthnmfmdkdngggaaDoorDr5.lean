/- For every input SaveDirect returns true, and leaves its arguments as they were; tied: Rows.SaveDirectCardSaid. Conditions: none beyond the given statement's own. (Part 5 of 7.) -/
import Derived.Test.YthnmfmdkdngggaaDoorDr4
import Derived.Deep.Upon
/- Instances that hang on functions' types. Written by inst.py. -/
namespace Go.Proofs.YthnmfmdkdngggaaDoor
set_option maxRecDepth 100000
set_option maxHeartbeats 16000000
open Go Go.RowKit
set_option maxRecDepth 100000
instance ty1 : TyA Tryd.prog 1 false 1 := ⟨fun _ => by kernel_rfl, fun _ => by kernel_rfl⟩
instance ze1 : ZeroA Tryd.prog 1 (Value.nilFunc) := ⟨fun _ => by kernel_rfl⟩
instance in1 : InfoA Tryd.prog 1 (Value.nilFunc) 1 8 := ⟨by kernel_rfl⟩
instance ty24 : TyA Tryd.prog 24 false 1 := ⟨fun _ => by kernel_rfl, fun _ => by kernel_rfl⟩
instance ze24 : ZeroA Tryd.prog 24 (Value.nilFunc) := ⟨fun _ => by kernel_rfl⟩
instance in24 : InfoA Tryd.prog 24 (Value.nilFunc) 1 8 := ⟨by kernel_rfl⟩
instance ty34 : TyA Tryd.prog 34 false 1 := ⟨fun _ => by kernel_rfl, fun _ => by kernel_rfl⟩
instance ze34 : ZeroA Tryd.prog 34 (Value.nilFunc) := ⟨fun _ => by kernel_rfl⟩
instance in34 : InfoA Tryd.prog 34 (Value.nilFunc) 1 8 := ⟨by kernel_rfl⟩
instance ty40 : TyA Tryd.prog 40 false 1 := ⟨fun _ => by kernel_rfl, fun _ => by kernel_rfl⟩
instance ze40 : ZeroA Tryd.prog 40 (Value.nilFunc) := ⟨fun _ => by kernel_rfl⟩
instance in40 : InfoA Tryd.prog 40 (Value.nilFunc) 1 8 := ⟨by kernel_rfl⟩
instance ty45 : TyA Tryd.prog 45 false 1 := ⟨fun _ => by kernel_rfl, fun _ => by kernel_rfl⟩
instance ze45 : ZeroA Tryd.prog 45 (Value.nilFunc) := ⟨fun _ => by kernel_rfl⟩
instance in45 : InfoA Tryd.prog 45 (Value.nilFunc) 1 8 := ⟨by kernel_rfl⟩
instance ty46 : TyA Tryd.prog 46 false 1 := ⟨fun _ => by kernel_rfl, fun _ => by kernel_rfl⟩
instance ze46 : ZeroA Tryd.prog 46 (Value.nilFunc) := ⟨fun _ => by kernel_rfl⟩
instance in46 : InfoA Tryd.prog 46 (Value.nilFunc) 1 8 := ⟨by kernel_rfl⟩
instance ty47 : TyA Tryd.prog 47 false 1 := ⟨fun _ => by kernel_rfl, fun _ => by kernel_rfl⟩
instance ze47 : ZeroA Tryd.prog 47 (Value.nilFunc) := ⟨fun _ => by kernel_rfl⟩
instance in47 : InfoA Tryd.prog 47 (Value.nilFunc) 1 8 := ⟨by kernel_rfl⟩
instance ty51 : TyA Tryd.prog 51 false 1 := ⟨fun _ => by kernel_rfl, fun _ => by kernel_rfl⟩
instance ze51 : ZeroA Tryd.prog 51 (Value.nilFunc) := ⟨fun _ => by kernel_rfl⟩
instance in51 : InfoA Tryd.prog 51 (Value.nilFunc) 1 8 := ⟨by kernel_rfl⟩
instance ty52 : TyA Tryd.prog 52 false 1 := ⟨fun _ => by kernel_rfl, fun _ => by kernel_rfl⟩
instance ze52 : ZeroA Tryd.prog 52 (Value.nilFunc) := ⟨fun _ => by kernel_rfl⟩
instance in52 : InfoA Tryd.prog 52 (Value.nilFunc) 1 8 := ⟨by kernel_rfl⟩
instance ty57 : TyA Tryd.prog 57 false 1 := ⟨fun _ => by kernel_rfl, fun _ => by kernel_rfl⟩
instance ze57 : ZeroA Tryd.prog 57 (Value.nilFunc) := ⟨fun _ => by kernel_rfl⟩
instance in57 : InfoA Tryd.prog 57 (Value.nilFunc) 1 8 := ⟨by kernel_rfl⟩
instance ty62 : TyA Tryd.prog 62 false 1 := ⟨fun _ => by kernel_rfl, fun _ => by kernel_rfl⟩
instance ze62 : ZeroA Tryd.prog 62 (Value.nilFunc) := ⟨fun _ => by kernel_rfl⟩
instance in62 : InfoA Tryd.prog 62 (Value.nilFunc) 1 8 := ⟨by kernel_rfl⟩
instance ty63 : TyA Tryd.prog 63 false 1 := ⟨fun _ => by kernel_rfl, fun _ => by kernel_rfl⟩
instance ze63 : ZeroA Tryd.prog 63 (Value.nilFunc) := ⟨fun _ => by kernel_rfl⟩
instance in63 : InfoA Tryd.prog 63 (Value.nilFunc) 1 8 := ⟨by kernel_rfl⟩
instance ty64 : TyA Tryd.prog 64 false 1 := ⟨fun _ => by kernel_rfl, fun _ => by kernel_rfl⟩
instance ze64 : ZeroA Tryd.prog 64 (Value.nilFunc) := ⟨fun _ => by kernel_rfl⟩
instance in64 : InfoA Tryd.prog 64 (Value.nilFunc) 1 8 := ⟨by kernel_rfl⟩
instance ty67 : TyA Tryd.prog 67 false 1 := ⟨fun _ => by kernel_rfl, fun _ => by kernel_rfl⟩
instance ze67 : ZeroA Tryd.prog 67 (Value.nilFunc) := ⟨fun _ => by kernel_rfl⟩
instance in67 : InfoA Tryd.prog 67 (Value.nilFunc) 1 8 := ⟨by kernel_rfl⟩
instance ty69 : TyA Tryd.prog 69 false 1 := ⟨fun _ => by kernel_rfl, fun _ => by kernel_rfl⟩
instance ze69 : ZeroA Tryd.prog 69 (Value.nilFunc) := ⟨fun _ => by kernel_rfl⟩
instance in69 : InfoA Tryd.prog 69 (Value.nilFunc) 1 8 := ⟨by kernel_rfl⟩
instance ty70 : TyA Tryd.prog 70 false 1 := ⟨fun _ => by kernel_rfl, fun _ => by kernel_rfl⟩
instance ze70 : ZeroA Tryd.prog 70 (Value.nilFunc) := ⟨fun _ => by kernel_rfl⟩
instance in70 : InfoA Tryd.prog 70 (Value.nilFunc) 1 8 := ⟨by kernel_rfl⟩
instance ty71 : TyA Tryd.prog 71 false 1 := ⟨fun _ => by kernel_rfl, fun _ => by kernel_rfl⟩
instance ze71 : ZeroA Tryd.prog 71 (Value.nilFunc) := ⟨fun _ => by kernel_rfl⟩
instance in71 : InfoA Tryd.prog 71 (Value.nilFunc) 1 8 := ⟨by kernel_rfl⟩
instance ty73 : TyA Tryd.prog 73 false 1 := ⟨fun _ => by kernel_rfl, fun _ => by kernel_rfl⟩
instance ze73 : ZeroA Tryd.prog 73 (Value.nilFunc) := ⟨fun _ => by kernel_rfl⟩
instance in73 : InfoA Tryd.prog 73 (Value.nilFunc) 1 8 := ⟨by kernel_rfl⟩
instance ty75 : TyA Tryd.prog 75 false 1 := ⟨fun _ => by kernel_rfl, fun _ => by kernel_rfl⟩
instance ze75 : ZeroA Tryd.prog 75 (Value.nilFunc) := ⟨fun _ => by kernel_rfl⟩
instance in75 : InfoA Tryd.prog 75 (Value.nilFunc) 1 8 := ⟨by kernel_rfl⟩
instance ty76 : TyA Tryd.prog 76 false 1 := ⟨fun _ => by kernel_rfl, fun _ => by kernel_rfl⟩
instance ze76 : ZeroA Tryd.prog 76 (Value.nilFunc) := ⟨fun _ => by kernel_rfl⟩
instance in76 : InfoA Tryd.prog 76 (Value.nilFunc) 1 8 := ⟨by kernel_rfl⟩
instance ty77 : TyA Tryd.prog 77 false 1 := ⟨fun _ => by kernel_rfl, fun _ => by kernel_rfl⟩
instance ze77 : ZeroA Tryd.prog 77 (Value.nilFunc) := ⟨fun _ => by kernel_rfl⟩
instance in77 : InfoA Tryd.prog 77 (Value.nilFunc) 1 8 := ⟨by kernel_rfl⟩
instance ty78 : TyA Tryd.prog 78 false 1 := ⟨fun _ => by kernel_rfl, fun _ => by kernel_rfl⟩
instance ze78 : ZeroA Tryd.prog 78 (Value.nilFunc) := ⟨fun _ => by kernel_rfl⟩
instance in78 : InfoA Tryd.prog 78 (Value.nilFunc) 1 8 := ⟨by kernel_rfl⟩
instance ty79 : TyA Tryd.prog 79 false 1 := ⟨fun _ => by kernel_rfl, fun _ => by kernel_rfl⟩
instance ze79 : ZeroA Tryd.prog 79 (Value.nilFunc) := ⟨fun _ => by kernel_rfl⟩
instance in79 : InfoA Tryd.prog 79 (Value.nilFunc) 1 8 := ⟨by kernel_rfl⟩
instance ty80 : TyA Tryd.prog 80 false 1 := ⟨fun _ => by kernel_rfl, fun _ => by kernel_rfl⟩
instance ze80 : ZeroA Tryd.prog 80 (Value.nilFunc) := ⟨fun _ => by kernel_rfl⟩
instance in80 : InfoA Tryd.prog 80 (Value.nilFunc) 1 8 := ⟨by kernel_rfl⟩
instance ty81 : TyA Tryd.prog 81 false 1 := ⟨fun _ => by kernel_rfl, fun _ => by kernel_rfl⟩
instance ze81 : ZeroA Tryd.prog 81 (Value.nilFunc) := ⟨fun _ => by kernel_rfl⟩
instance in81 : InfoA Tryd.prog 81 (Value.nilFunc) 1 8 := ⟨by kernel_rfl⟩
instance ty82 : TyA Tryd.prog 82 false 1 := ⟨fun _ => by kernel_rfl, fun _ => by kernel_rfl⟩
instance ze82 : ZeroA Tryd.prog 82 (Value.nilFunc) := ⟨fun _ => by kernel_rfl⟩
instance in82 : InfoA Tryd.prog 82 (Value.nilFunc) 1 8 := ⟨by kernel_rfl⟩
instance ty83 : TyA Tryd.prog 83 false 1 := ⟨fun _ => by kernel_rfl, fun _ => by kernel_rfl⟩
instance ze83 : ZeroA Tryd.prog 83 (Value.nilFunc) := ⟨fun _ => by kernel_rfl⟩
instance in83 : InfoA Tryd.prog 83 (Value.nilFunc) 1 8 := ⟨by kernel_rfl⟩
instance ty85 : TyA Tryd.prog 85 false 1 := ⟨fun _ => by kernel_rfl, fun _ => by kernel_rfl⟩
instance ze85 : ZeroA Tryd.prog 85 (Value.nilFunc) := ⟨fun _ => by kernel_rfl⟩
instance in85 : InfoA Tryd.prog 85 (Value.nilFunc) 1 8 := ⟨by kernel_rfl⟩
instance ty87 : TyA Tryd.prog 87 false 1 := ⟨fun _ => by kernel_rfl, fun _ => by kernel_rfl⟩
instance ze87 : ZeroA Tryd.prog 87 (Value.nilFunc) := ⟨fun _ => by kernel_rfl⟩
instance in87 : InfoA Tryd.prog 87 (Value.nilFunc) 1 8 := ⟨by kernel_rfl⟩
instance ty88 : TyA Tryd.prog 88 false 1 := ⟨fun _ => by kernel_rfl, fun _ => by kernel_rfl⟩
instance ze88 : ZeroA Tryd.prog 88 (Value.nilFunc) := ⟨fun _ => by kernel_rfl⟩
instance in88 : InfoA Tryd.prog 88 (Value.nilFunc) 1 8 := ⟨by kernel_rfl⟩
instance ty90 : TyA Tryd.prog 90 false 1 := ⟨fun _ => by kernel_rfl, fun _ => by kernel_rfl⟩
instance ze90 : ZeroA Tryd.prog 90 (Value.nilFunc) := ⟨fun _ => by kernel_rfl⟩
instance in90 : InfoA Tryd.prog 90 (Value.nilFunc) 1 8 := ⟨by kernel_rfl⟩
instance ty91 : TyA Tryd.prog 91 false 1 := ⟨fun _ => by kernel_rfl, fun _ => by kernel_rfl⟩
instance ze91 : ZeroA Tryd.prog 91 (Value.nilFunc) := ⟨fun _ => by kernel_rfl⟩
instance in91 : InfoA Tryd.prog 91 (Value.nilFunc) 1 8 := ⟨by kernel_rfl⟩
instance ty92 : TyA Tryd.prog 92 false 1 := ⟨fun _ => by kernel_rfl, fun _ => by kernel_rfl⟩
instance ze92 : ZeroA Tryd.prog 92 (Value.nilFunc) := ⟨fun _ => by kernel_rfl⟩
instance in92 : InfoA Tryd.prog 92 (Value.nilFunc) 1 8 := ⟨by kernel_rfl⟩
instance ty93 : TyA Tryd.prog 93 false 1 := ⟨fun _ => by kernel_rfl, fun _ => by kernel_rfl⟩
instance ze93 : ZeroA Tryd.prog 93 (Value.nilFunc) := ⟨fun _ => by kernel_rfl⟩
instance in93 : InfoA Tryd.prog 93 (Value.nilFunc) 1 8 := ⟨by kernel_rfl⟩
instance ty94 : TyA Tryd.prog 94 false 1 := ⟨fun _ => by kernel_rfl, fun _ => by kernel_rfl⟩
instance ze94 : ZeroA Tryd.prog 94 (Value.nilFunc) := ⟨fun _ => by kernel_rfl⟩
instance in94 : InfoA Tryd.prog 94 (Value.nilFunc) 1 8 := ⟨by kernel_rfl⟩
instance ty96 : TyA Tryd.prog 96 false 1 := ⟨fun _ => by kernel_rfl, fun _ => by kernel_rfl⟩
instance ze96 : ZeroA Tryd.prog 96 (Value.nilFunc) := ⟨fun _ => by kernel_rfl⟩
instance in96 : InfoA Tryd.prog 96 (Value.nilFunc) 1 8 := ⟨by kernel_rfl⟩
instance ty97 : TyA Tryd.prog 97 false 1 := ⟨fun _ => by kernel_rfl, fun _ => by kernel_rfl⟩
instance ze97 : ZeroA Tryd.prog 97 (Value.nilFunc) := ⟨fun _ => by kernel_rfl⟩
instance in97 : InfoA Tryd.prog 97 (Value.nilFunc) 1 8 := ⟨by kernel_rfl⟩
instance ty99 : TyA Tryd.prog 99 false 1 := ⟨fun _ => by kernel_rfl, fun _ => by kernel_rfl⟩
instance ze99 : ZeroA Tryd.prog 99 (Value.nilFunc) := ⟨fun _ => by kernel_rfl⟩
instance in99 : InfoA Tryd.prog 99 (Value.nilFunc) 1 8 := ⟨by kernel_rfl⟩
instance ty100 : TyA Tryd.prog 100 false 1 := ⟨fun _ => by kernel_rfl, fun _ => by kernel_rfl⟩
instance ze100 : ZeroA Tryd.prog 100 (Value.nilFunc) := ⟨fun _ => by kernel_rfl⟩
instance in100 : InfoA Tryd.prog 100 (Value.nilFunc) 1 8 := ⟨by kernel_rfl⟩
instance ty101 : TyA Tryd.prog 101 false 1 := ⟨fun _ => by kernel_rfl, fun _ => by kernel_rfl⟩
instance ze101 : ZeroA Tryd.prog 101 (Value.nilFunc) := ⟨fun _ => by kernel_rfl⟩
instance in101 : InfoA Tryd.prog 101 (Value.nilFunc) 1 8 := ⟨by kernel_rfl⟩
instance ty102 : TyA Tryd.prog 102 false 1 := ⟨fun _ => by kernel_rfl, fun _ => by kernel_rfl⟩
instance ze102 : ZeroA Tryd.prog 102 (Value.nilFunc) := ⟨fun _ => by kernel_rfl⟩
instance in102 : InfoA Tryd.prog 102 (Value.nilFunc) 1 8 := ⟨by kernel_rfl⟩
instance ty105 : TyA Tryd.prog 105 false 1 := ⟨fun _ => by kernel_rfl, fun _ => by kernel_rfl⟩
instance ze105 : ZeroA Tryd.prog 105 (Value.nilFunc) := ⟨fun _ => by kernel_rfl⟩
instance in105 : InfoA Tryd.prog 105 (Value.nilFunc) 1 8 := ⟨by kernel_rfl⟩
instance ty106 : TyA Tryd.prog 106 false 1 := ⟨fun _ => by kernel_rfl, fun _ => by kernel_rfl⟩
instance ze106 : ZeroA Tryd.prog 106 (Value.nilFunc) := ⟨fun _ => by kernel_rfl⟩
instance in106 : InfoA Tryd.prog 106 (Value.nilFunc) 1 8 := ⟨by kernel_rfl⟩
instance ty107 : TyA Tryd.prog 107 false 1 := ⟨fun _ => by kernel_rfl, fun _ => by kernel_rfl⟩
instance ze107 : ZeroA Tryd.prog 107 (Value.nilFunc) := ⟨fun _ => by kernel_rfl⟩
instance in107 : InfoA Tryd.prog 107 (Value.nilFunc) 1 8 := ⟨by kernel_rfl⟩
instance ty108 : TyA Tryd.prog 108 false 1 := ⟨fun _ => by kernel_rfl, fun _ => by kernel_rfl⟩
instance ze108 : ZeroA Tryd.prog 108 (Value.nilFunc) := ⟨fun _ => by kernel_rfl⟩
instance in108 : InfoA Tryd.prog 108 (Value.nilFunc) 1 8 := ⟨by kernel_rfl⟩
instance ty109 : TyA Tryd.prog 109 false 1 := ⟨fun _ => by kernel_rfl, fun _ => by kernel_rfl⟩
instance ze109 : ZeroA Tryd.prog 109 (Value.nilFunc) := ⟨fun _ => by kernel_rfl⟩
instance in109 : InfoA Tryd.prog 109 (Value.nilFunc) 1 8 := ⟨by kernel_rfl⟩
instance ty110 : TyA Tryd.prog 110 false 1 := ⟨fun _ => by kernel_rfl, fun _ => by kernel_rfl⟩
instance ze110 : ZeroA Tryd.prog 110 (Value.nilFunc) := ⟨fun _ => by kernel_rfl⟩
instance in110 : InfoA Tryd.prog 110 (Value.nilFunc) 1 8 := ⟨by kernel_rfl⟩
instance ty111 : TyA Tryd.prog 111 false 1 := ⟨fun _ => by kernel_rfl, fun _ => by kernel_rfl⟩
instance ze111 : ZeroA Tryd.prog 111 (Value.nilFunc) := ⟨fun _ => by kernel_rfl⟩
instance in111 : InfoA Tryd.prog 111 (Value.nilFunc) 1 8 := ⟨by kernel_rfl⟩
instance ty112 : TyA Tryd.prog 112 false 1 := ⟨fun _ => by kernel_rfl, fun _ => by kernel_rfl⟩
instance ze112 : ZeroA Tryd.prog 112 (Value.nilFunc) := ⟨fun _ => by kernel_rfl⟩
instance in112 : InfoA Tryd.prog 112 (Value.nilFunc) 1 8 := ⟨by kernel_rfl⟩
instance ty113 : TyA Tryd.prog 113 false 1 := ⟨fun _ => by kernel_rfl, fun _ => by kernel_rfl⟩
instance ze113 : ZeroA Tryd.prog 113 (Value.nilFunc) := ⟨fun _ => by kernel_rfl⟩
instance in113 : InfoA Tryd.prog 113 (Value.nilFunc) 1 8 := ⟨by kernel_rfl⟩
instance ty115 : TyA Tryd.prog 115 false 1 := ⟨fun _ => by kernel_rfl, fun _ => by kernel_rfl⟩
instance ze115 : ZeroA Tryd.prog 115 (Value.nilFunc) := ⟨fun _ => by kernel_rfl⟩
instance in115 : InfoA Tryd.prog 115 (Value.nilFunc) 1 8 := ⟨by kernel_rfl⟩
instance ty117 : TyA Tryd.prog 117 false 1 := ⟨fun _ => by kernel_rfl, fun _ => by kernel_rfl⟩
instance ze117 : ZeroA Tryd.prog 117 (Value.nilFunc) := ⟨fun _ => by kernel_rfl⟩
instance in117 : InfoA Tryd.prog 117 (Value.nilFunc) 1 8 := ⟨by kernel_rfl⟩
instance ty121 : TyA Tryd.prog 121 false 1 := ⟨fun _ => by kernel_rfl, fun _ => by kernel_rfl⟩
instance ze121 : ZeroA Tryd.prog 121 (Value.nilFunc) := ⟨fun _ => by kernel_rfl⟩
instance in121 : InfoA Tryd.prog 121 (Value.nilFunc) 1 8 := ⟨by kernel_rfl⟩
instance ty123 : TyA Tryd.prog 123 false 1 := ⟨fun _ => by kernel_rfl, fun _ => by kernel_rfl⟩
instance ze123 : ZeroA Tryd.prog 123 (Value.nilFunc) := ⟨fun _ => by kernel_rfl⟩
instance in123 : InfoA Tryd.prog 123 (Value.nilFunc) 1 8 := ⟨by kernel_rfl⟩
instance ty124 : TyA Tryd.prog 124 false 1 := ⟨fun _ => by kernel_rfl, fun _ => by kernel_rfl⟩
instance ze124 : ZeroA Tryd.prog 124 (Value.nilFunc) := ⟨fun _ => by kernel_rfl⟩
instance in124 : InfoA Tryd.prog 124 (Value.nilFunc) 1 8 := ⟨by kernel_rfl⟩
instance ty126 : TyA Tryd.prog 126 false 1 := ⟨fun _ => by kernel_rfl, fun _ => by kernel_rfl⟩
instance ze126 : ZeroA Tryd.prog 126 (Value.nilFunc) := ⟨fun _ => by kernel_rfl⟩
instance in126 : InfoA Tryd.prog 126 (Value.nilFunc) 1 8 := ⟨by kernel_rfl⟩
instance ty127 : TyA Tryd.prog 127 false 1 := ⟨fun _ => by kernel_rfl, fun _ => by kernel_rfl⟩
instance ze127 : ZeroA Tryd.prog 127 (Value.nilFunc) := ⟨fun _ => by kernel_rfl⟩
instance in127 : InfoA Tryd.prog 127 (Value.nilFunc) 1 8 := ⟨by kernel_rfl⟩
instance ty128 : TyA Tryd.prog 128 false 1 := ⟨fun _ => by kernel_rfl, fun _ => by kernel_rfl⟩
instance ze128 : ZeroA Tryd.prog 128 (Value.nilFunc) := ⟨fun _ => by kernel_rfl⟩
instance in128 : InfoA Tryd.prog 128 (Value.nilFunc) 1 8 := ⟨by kernel_rfl⟩
instance ty130 : TyA Tryd.prog 130 false 1 := ⟨fun _ => by kernel_rfl, fun _ => by kernel_rfl⟩
instance ze130 : ZeroA Tryd.prog 130 (Value.nilFunc) := ⟨fun _ => by kernel_rfl⟩
instance in130 : InfoA Tryd.prog 130 (Value.nilFunc) 1 8 := ⟨by kernel_rfl⟩
instance ty131 : TyA Tryd.prog 131 false 1 := ⟨fun _ => by kernel_rfl, fun _ => by kernel_rfl⟩
instance ze131 : ZeroA Tryd.prog 131 (Value.nilFunc) := ⟨fun _ => by kernel_rfl⟩
instance in131 : InfoA Tryd.prog 131 (Value.nilFunc) 1 8 := ⟨by kernel_rfl⟩
instance bu132 : BuildA Tryd.prog 132 [(0, 1), (1, 1)] := ⟨by kernel_rfl, by kernel_rfl⟩
instance bu133 : BuildA Tryd.prog 133 [(0, 1), (1, 1)] := ⟨by kernel_rfl, by kernel_rfl⟩
instance ty136 : TyA Tryd.prog 136 false 1 := ⟨fun _ => by kernel_rfl, fun _ => by kernel_rfl⟩
instance ze136 : ZeroA Tryd.prog 136 (Value.nilFunc) := ⟨fun _ => by kernel_rfl⟩
instance in136 : InfoA Tryd.prog 136 (Value.nilFunc) 1 8 := ⟨by kernel_rfl⟩
instance ty137 : TyA Tryd.prog 137 false 1 := ⟨fun _ => by kernel_rfl, fun _ => by kernel_rfl⟩
instance ze137 : ZeroA Tryd.prog 137 (Value.nilFunc) := ⟨fun _ => by kernel_rfl⟩
instance in137 : InfoA Tryd.prog 137 (Value.nilFunc) 1 8 := ⟨by kernel_rfl⟩
instance ty138 : TyA Tryd.prog 138 false 1 := ⟨fun _ => by kernel_rfl, fun _ => by kernel_rfl⟩
instance ze138 : ZeroA Tryd.prog 138 (Value.nilFunc) := ⟨fun _ => by kernel_rfl⟩
instance in138 : InfoA Tryd.prog 138 (Value.nilFunc) 1 8 := ⟨by kernel_rfl⟩
instance ty139 : TyA Tryd.prog 139 false 1 := ⟨fun _ => by kernel_rfl, fun _ => by kernel_rfl⟩
instance ze139 : ZeroA Tryd.prog 139 (Value.nilFunc) := ⟨fun _ => by kernel_rfl⟩
instance in139 : InfoA Tryd.prog 139 (Value.nilFunc) 1 8 := ⟨by kernel_rfl⟩
instance ty140 : TyA Tryd.prog 140 false 1 := ⟨fun _ => by kernel_rfl, fun _ => by kernel_rfl⟩
instance ze140 : ZeroA Tryd.prog 140 (Value.nilFunc) := ⟨fun _ => by kernel_rfl⟩
instance in140 : InfoA Tryd.prog 140 (Value.nilFunc) 1 8 := ⟨by kernel_rfl⟩
instance ty141 : TyA Tryd.prog 141 false 1 := ⟨fun _ => by kernel_rfl, fun _ => by kernel_rfl⟩
instance ze141 : ZeroA Tryd.prog 141 (Value.nilFunc) := ⟨fun _ => by kernel_rfl⟩
instance in141 : InfoA Tryd.prog 141 (Value.nilFunc) 1 8 := ⟨by kernel_rfl⟩
instance ty142 : TyA Tryd.prog 142 false 1 := ⟨fun _ => by kernel_rfl, fun _ => by kernel_rfl⟩
instance ze142 : ZeroA Tryd.prog 142 (Value.nilFunc) := ⟨fun _ => by kernel_rfl⟩
instance in142 : InfoA Tryd.prog 142 (Value.nilFunc) 1 8 := ⟨by kernel_rfl⟩
instance ty143 : TyA Tryd.prog 143 false 1 := ⟨fun _ => by kernel_rfl, fun _ => by kernel_rfl⟩
instance ze143 : ZeroA Tryd.prog 143 (Value.nilFunc) := ⟨fun _ => by kernel_rfl⟩
instance in143 : InfoA Tryd.prog 143 (Value.nilFunc) 1 8 := ⟨by kernel_rfl⟩
instance ty144 : TyA Tryd.prog 144 false 1 := ⟨fun _ => by kernel_rfl, fun _ => by kernel_rfl⟩
instance ze144 : ZeroA Tryd.prog 144 (Value.nilFunc) := ⟨fun _ => by kernel_rfl⟩
instance in144 : InfoA Tryd.prog 144 (Value.nilFunc) 1 8 := ⟨by kernel_rfl⟩
instance ty145 : TyA Tryd.prog 145 false 1 := ⟨fun _ => by kernel_rfl, fun _ => by kernel_rfl⟩
instance ze145 : ZeroA Tryd.prog 145 (Value.nilFunc) := ⟨fun _ => by kernel_rfl⟩
instance in145 : InfoA Tryd.prog 145 (Value.nilFunc) 1 8 := ⟨by kernel_rfl⟩
instance ty146 : TyA Tryd.prog 146 false 1 := ⟨fun _ => by kernel_rfl, fun _ => by kernel_rfl⟩
instance ze146 : ZeroA Tryd.prog 146 (Value.nilFunc) := ⟨fun _ => by kernel_rfl⟩
instance in146 : InfoA Tryd.prog 146 (Value.nilFunc) 1 8 := ⟨by kernel_rfl⟩
instance ty148 : TyA Tryd.prog 148 false 1 := ⟨fun _ => by kernel_rfl, fun _ => by kernel_rfl⟩
instance ze148 : ZeroA Tryd.prog 148 (Value.nilFunc) := ⟨fun _ => by kernel_rfl⟩
instance in148 : InfoA Tryd.prog 148 (Value.nilFunc) 1 8 := ⟨by kernel_rfl⟩
instance ty149 : TyA Tryd.prog 149 false 1 := ⟨fun _ => by kernel_rfl, fun _ => by kernel_rfl⟩
instance ze149 : ZeroA Tryd.prog 149 (Value.nilFunc) := ⟨fun _ => by kernel_rfl⟩
instance in149 : InfoA Tryd.prog 149 (Value.nilFunc) 1 8 := ⟨by kernel_rfl⟩
instance ty150 : TyA Tryd.prog 150 false 1 := ⟨fun _ => by kernel_rfl, fun _ => by kernel_rfl⟩
instance ze150 : ZeroA Tryd.prog 150 (Value.nilFunc) := ⟨fun _ => by kernel_rfl⟩
instance in150 : InfoA Tryd.prog 150 (Value.nilFunc) 1 8 := ⟨by kernel_rfl⟩
instance ty151 : TyA Tryd.prog 151 false 1 := ⟨fun _ => by kernel_rfl, fun _ => by kernel_rfl⟩
instance ze151 : ZeroA Tryd.prog 151 (Value.nilFunc) := ⟨fun _ => by kernel_rfl⟩
instance in151 : InfoA Tryd.prog 151 (Value.nilFunc) 1 8 := ⟨by kernel_rfl⟩
instance ty153 : TyA Tryd.prog 153 false 1 := ⟨fun _ => by kernel_rfl, fun _ => by kernel_rfl⟩
instance ze153 : ZeroA Tryd.prog 153 (Value.nilFunc) := ⟨fun _ => by kernel_rfl⟩
instance in153 : InfoA Tryd.prog 153 (Value.nilFunc) 1 8 := ⟨by kernel_rfl⟩
instance ty156 : TyA Tryd.prog 156 false 1 := ⟨fun _ => by kernel_rfl, fun _ => by kernel_rfl⟩
instance ze156 : ZeroA Tryd.prog 156 (Value.nilFunc) := ⟨fun _ => by kernel_rfl⟩
instance in156 : InfoA Tryd.prog 156 (Value.nilFunc) 1 8 := ⟨by kernel_rfl⟩
instance ty158 : TyA Tryd.prog 158 false 1 := ⟨fun _ => by kernel_rfl, fun _ => by kernel_rfl⟩
instance ze158 : ZeroA Tryd.prog 158 (Value.nilFunc) := ⟨fun _ => by kernel_rfl⟩
instance in158 : InfoA Tryd.prog 158 (Value.nilFunc) 1 8 := ⟨by kernel_rfl⟩
instance ty159 : TyA Tryd.prog 159 false 1 := ⟨fun _ => by kernel_rfl, fun _ => by kernel_rfl⟩
instance ze159 : ZeroA Tryd.prog 159 (Value.nilFunc) := ⟨fun _ => by kernel_rfl⟩
instance in159 : InfoA Tryd.prog 159 (Value.nilFunc) 1 8 := ⟨by kernel_rfl⟩
instance ty160 : TyA Tryd.prog 160 false 1 := ⟨fun _ => by kernel_rfl, fun _ => by kernel_rfl⟩
instance ze160 : ZeroA Tryd.prog 160 (Value.nilFunc) := ⟨fun _ => by kernel_rfl⟩
instance in160 : InfoA Tryd.prog 160 (Value.nilFunc) 1 8 := ⟨by kernel_rfl⟩
instance ty161 : TyA Tryd.prog 161 false 1 := ⟨fun _ => by kernel_rfl, fun _ => by kernel_rfl⟩
instance ze161 : ZeroA Tryd.prog 161 (Value.nilFunc) := ⟨fun _ => by kernel_rfl⟩
instance in161 : InfoA Tryd.prog 161 (Value.nilFunc) 1 8 := ⟨by kernel_rfl⟩
instance ty163 : TyA Tryd.prog 163 false 1 := ⟨fun _ => by kernel_rfl, fun _ => by kernel_rfl⟩
instance ze163 : ZeroA Tryd.prog 163 (Value.nilFunc) := ⟨fun _ => by kernel_rfl⟩
instance in163 : InfoA Tryd.prog 163 (Value.nilFunc) 1 8 := ⟨by kernel_rfl⟩
instance ty164 : TyA Tryd.prog 164 false 1 := ⟨fun _ => by kernel_rfl, fun _ => by kernel_rfl⟩
instance ze164 : ZeroA Tryd.prog 164 (Value.nilFunc) := ⟨fun _ => by kernel_rfl⟩
instance in164 : InfoA Tryd.prog 164 (Value.nilFunc) 1 8 := ⟨by kernel_rfl⟩
instance ty170 : TyA Tryd.prog 170 false 1 := ⟨fun _ => by kernel_rfl, fun _ => by kernel_rfl⟩
instance ze170 : ZeroA Tryd.prog 170 (Value.nilFunc) := ⟨fun _ => by kernel_rfl⟩
instance in170 : InfoA Tryd.prog 170 (Value.nilFunc) 1 8 := ⟨by kernel_rfl⟩
instance ty173 : TyA Tryd.prog 173 false 1 := ⟨fun _ => by kernel_rfl, fun _ => by kernel_rfl⟩
instance ze173 : ZeroA Tryd.prog 173 (Value.nilFunc) := ⟨fun _ => by kernel_rfl⟩
instance in173 : InfoA Tryd.prog 173 (Value.nilFunc) 1 8 := ⟨by kernel_rfl⟩
instance bu177 : BuildA Tryd.prog 177 [(0, 1), (1, 1), (2, 1), (3, 1), (4, 1), (5, 1), (6, 1), (7, 1), (8, 1), (9, 1), (10, 1)] := ⟨by kernel_rfl, by kernel_rfl⟩
instance bu178 : BuildA Tryd.prog 178 [(0, 1), (1, 1), (2, 1), (3, 1), (4, 1), (5, 1), (6, 1), (7, 1), (8, 1), (9, 1), (10, 1)] := ⟨by kernel_rfl, by kernel_rfl⟩
end Go.Proofs.YthnmfmdkdngggaaDoor
/- Worlds: copies of rows, accesses of words: contracts. -/
namespace Go.Proofs.YthnmfmdkdngggaaDoor
set_option maxRecDepth 100000
set_option maxHeartbeats 16000000
open Go Go.RowKit
set_option linter.unusedSimpArgs false
attribute [local irreducible] zY zX Step zC Sub zL zI Fn
/-- words, as a slice's elements -/
def wds (ws : List Int) : List PV := ws.map fun n => .val (.int .u64 n)
theorem wds_len (ws : List Int) : (wds ws).length = ws.length := by simp [wds]
theorem wds_one (ws : List Int) : ∀ e ∈ wds ws, e.cells = [e] := fun e he => by
  obtain ⟨x, _, rfl⟩ := List.mem_map.1 he
  rfl
theorem wds_cells (ws : List Int) : ∀ e ∈ wds ws, e.cells.length = 1 := fun e he => by rw [wds_one ws e he]; rfl
theorem grow_lim (n k : Nat) (h : n ≤ 1000000) (hk : k ≤ 1000) : (([] : List PV).length + n) * k ≤ 140737488355328 ∧ ([] : List PV).length + n ≤ maxLen := by
  have h2 : n * k ≤ 1000000 * 1000 := Nat.mul_le_mul h hk
  simp only [List.length_nil, Nat.zero_add, maxLen]
  omega
theorem cloneW_fn (ws : List Int) (h0 : 1 ≤ ws.length) (h1 : ws.length ≤ 1000000) : Fn Tryd.prog 40 [.sl (wds ws)] (.row 22 1 (wds ws).length (flat (wds ws))) := by
  have g1 := wds_cells ws
  have g2 : wds ws ≠ [] := fun e => by have := congrArg List.length e; rw [wds_len, List.length_nil] at this; omega
  have g3 := grow_lim (wds ws).length 8 (by rw [wds_len]; exact h1) (by decide)
  refine yM Tryd.func40 rfl Tryd.ntmps40 (Nat.le_of_ble_eq_true rfl) ?_
  repeat' ((refine zX.is ?_; first | refine zX.seq ?_ | (refine zX.isR (id := 0) ?_; refine zX.zV [0] [2, 5] (by repeat' first | exact zZ.nil | apply zZ.p rfl) (by repeat' first | exact zW.nil | apply zW.skip) ?_; (refine zY.v rfl rfl (zK rfl rfl rfl (by decide)) ?_); refine zY.nil ?_) | (refine zX.isR (id := 1) ?_; refine zX.zV [0, 2] [2, 5] (by repeat' first | exact zZ.nil | apply zZ.p rfl) (by repeat' first | exact zW.nil | apply zW.skip) ?_; (refine zY.v rfl rfl (zQ rfl rfl rfl (by decide)) ?_); (refine zY.v rfl rfl (by exact r_eqlNil rfl rfl rfl (by exact g2) (by exact bF (by decide)) rfl (by decide)) ?_); refine zY.nil ?_) | (refine zX.isR (id := 3) ?_; refine zX.zV [0, 2] [2, 5] (by repeat' first | exact zZ.nil | apply zZ.p rfl) (by repeat' first | exact zW.nil | apply zW.skip) ?_; (refine zY.m rfl rfl (w_build0V rfl rfl (by decide)) ?_); (refine zY.v rfl rfl (zQ rfl rfl rfl (by decide)) ?_); (refine zY.w rfl (by exact w_appV rfl rfl rfl rfl (by exact g1) (by exact g3) rfl (by decide) rfl (by decide)) ?_); (refine zY.v rfl rfl (xE rfl rfl rfl (by decide)) ?_); refine zY.nil ?_) | refine zX.yN rfl (by with_reducible rfl) ?_ | refine zX.skip ?_ | refine zX.ret ?_))
  all_goals exact ⟨by first | exact .inl rfl | exact .inr rfl, givesRowV rfl rfl rfl⟩
/-! ### The accesses of a word -/
def funV (f : Nat) : Value := .func (.func f) #[] #[]
def turnsL : List PV := [.agg [.val (.int .i64 0), .val (funV 87)], .agg [.val (.int .i64 1), .val (funV 88)], .agg [.val (.int .i64 2), .val (funV 89)], .agg [.val (.int .i64 3), .val (funV 90)], .agg [.val (.int .i64 4), .val (funV 91)]]
theorem turns_fn : Fn Tryd.prog 71 [] (.p (.sl turnsL)) := by
  refine yM Tryd.func71 rfl Tryd.ntmps71 (Nat.le_of_ble_eq_true rfl) ?_
  repeat' ((refine zX.is ?_; first | refine zX.seq ?_ | (refine zX.isR (id := 0) ?_; refine zX.zV [] [0, 6] (by repeat' exact zZ.nil) (by repeat' first | exact zW.nil | apply zW.skip) ?_; (refine zY.v rfl rfl (zK rfl rfl rfl (by decide)) ?_); refine zY.nil ?_) | (refine zX.isR (id := 1) ?_; refine zX.zV [0] [0, 6] (by repeat' first | exact zZ.nil | apply zZ.p rfl) (by repeat' first | exact zW.nil | apply zW.skip) ?_; (refine zY.v rfl rfl (zT rfl (by rfl) (by rfl) (by rfl) (by rfl) rfl (by decide)) ?_); (refine zY.v rfl rfl (zT rfl (by rfl) (by rfl) (by rfl) (by rfl) rfl (by decide)) ?_); (refine zY.v rfl rfl (zT rfl (by rfl) (by rfl) (by rfl) (by rfl) rfl (by decide)) ?_); (refine zY.v rfl rfl (zT rfl (by rfl) (by rfl) (by rfl) (by rfl) rfl (by decide)) ?_); (refine zY.v rfl rfl (zT rfl (by rfl) (by rfl) (by rfl) (by rfl) rfl (by decide)) ?_); (refine zY.v rfl rfl (wR rfl (by decide) (by decide) (by decide) (by decide) (by rfl) (by rfl) (by rfl) (by rfl) (by rfl) (by rfl) (by rfl) rfl (by decide)) ?_); (refine zY.v rfl rfl (zK rfl rfl rfl (by decide)) ?_); refine zY.nil ?_) | refine zX.ret ?_))
  trace_state
  all_goals exact ⟨by first | exact .inl rfl | exact .inr rfl, _, Sub.refl _, .p rfl (.tmp rfl)⟩
/-- what an access of a word tells, and the word then -/
def turnR (kind old a b : Int) : Int × Int := if kind = 0 then (old, old) else if kind = 1 then (0, a) else if kind = 2 then (if old = a then (1, b) else (0, old)) else if kind = 3 then (old, IntKind.u64.wrap (old + a)) else (old, a)
theorem turn1_fn (old kind cell a b : Int) (d w : PV) : Fn Tryd.prog 87 [.val (.int .u64 old), .agg [.val (.int .i64 kind), .val (.int .i64 cell), .val (.int .u64 a), .val (.int .u64 b), d, w]] (.tup [.val (.int .u64 old), .val (.int .u64 old)]) := by
  refine yM Tryd.func87 rfl Tryd.ntmps87 (Nat.le_of_ble_eq_true rfl) ?_
  repeat' ((refine zX.is ?_; first | refine zX.seq ?_ | (refine zX.isR (id := 0) ?_; refine zX.zV [0, 1] [3] (by repeat' first | exact zZ.nil | apply zZ.p rfl) (by repeat' first | exact zW.nil | apply zW.skip) ?_; (refine zY.m rfl rfl (yX rfl rfl rfl (by decide)) ?_); (refine zY.v rfl rfl (zK rfl rfl rfl (by decide)) ?_); (refine zY.v rfl rfl (zK rfl rfl rfl (by decide)) ?_); refine zY.nil ?_) | (refine zX.isR (id := 1) ?_; refine zX.zV [0, 4, 5] [3] (by repeat' first | exact zZ.nil | apply zZ.p rfl) (by repeat' first | exact zW.nil | apply zW.boxP rfl rfl) ?_; (refine zY.v rfl rfl (zQ rfl rfl rfl (by decide)) ?_); (refine zY.v rfl rfl (zQ rfl rfl rfl (by decide)) ?_); (refine zY.v rfl rfl (zK rfl rfl rfl (by decide)) ?_); (refine zY.v rfl rfl (zK rfl rfl rfl (by decide)) ?_); refine zY.nil ?_) | refine zX.ret ?_))
  all_goals exact ⟨by first | exact .inl rfl | exact .inr rfl, _, Sub.refl _, .tupE rfl (by decide) (.cons (.tmp rfl) (.cons (.tmp rfl) .nil)) rfl⟩
theorem turn2_fn (old kind cell a b : Int) (d w : PV) : Fn Tryd.prog 88 [.val (.int .u64 old), .agg [.val (.int .i64 kind), .val (.int .i64 cell), .val (.int .u64 a), .val (.int .u64 b), d, w]] (.tup [.val (.int .u64 0), .val (.int .u64 a)]) := by
  refine yM Tryd.func88 rfl Tryd.ntmps88 (Nat.le_of_ble_eq_true rfl) ?_
  repeat' ((refine zX.is ?_; first | refine zX.seq ?_ | (refine zX.isR (id := 0) ?_; refine zX.zV [1] [3] (by repeat' first | exact zZ.nil | apply zZ.p rfl) (by repeat' first | exact zW.nil | apply zW.skip) ?_; (refine zY.m rfl rfl (yX rfl rfl rfl (by decide)) ?_); (refine zY.v rfl rfl (zK rfl rfl rfl (by decide)) ?_); (refine zY.v rfl rfl (zK rfl rfl rfl (by decide)) ?_); refine zY.nil ?_) | (refine zX.isR (id := 1) ?_; refine zX.yF [3, 4, 5] [3] (by repeat' first | exact zZ.nil | apply zZ.p rfl | apply zZ.ptr rfl) (by repeat' first | exact zW.nil | apply zW.boxP rfl rfl) (zX.draws ?_); all_goals (refine Draws.v rfl rfl (zJ rfl rfl rfl (by decide)) ?_); all_goals (refine Draws.v rfl rfl (zA rfl rfl rfl rfl rfl (by decide)) ?_); all_goals (refine Draws.v rfl rfl (zK rfl rfl rfl (by decide)) ?_); all_goals (refine Draws.v rfl rfl (zK rfl rfl rfl (by decide)) ?_); all_goals ((refine Draws.done (by kernel_rfl) (by kernel_rfl) (by kernel_rfl) ?_; refine zL.nil ?_))) | refine zX.ret ?_))
  all_goals exact ⟨by first | exact .inl rfl | exact .inr rfl, _, Sub.refl _, .tupE rfl (by decide) (.cons (.tmp rfl) (.cons (.tmp rfl) .nil)) rfl⟩
theorem turn3_fn (old kind cell a b : Int) (d w : PV) : Fn Tryd.prog 89 [.val (.int .u64 old), .agg [.val (.int .i64 kind), .val (.int .i64 cell), .val (.int .u64 a), .val (.int .u64 b), d, w]] (.tup [.val (.int .u64 (turnR 2 old a b).1), .val (.int .u64 (turnR 2 old a b).2)]) := by
  refine yM Tryd.func89 rfl Tryd.ntmps89 (Nat.le_of_ble_eq_true rfl) ?_
  repeat' (first | (refine zX.is ?_; first | refine zX.seq ?_ | (refine zX.isR (id := 0) ?_; refine zX.zV [0, 1] [3] (by repeat' first | exact zZ.nil | apply zZ.p rfl) (by repeat' first | exact zW.nil | apply zW.skip) ?_; (refine zY.m rfl rfl (yX rfl rfl rfl (by decide)) ?_); (refine zY.v rfl rfl (zK rfl rfl rfl (by decide)) ?_); (refine zY.v rfl rfl (zK rfl rfl rfl (by decide)) ?_); refine zY.nil ?_) | (refine zX.isR (id := 1) ?_; refine zX.zV [0, 3, 4, 5] [3] (by repeat' first | exact zZ.nil | apply zZ.p rfl | apply zZ.ptr rfl) (by repeat' first | exact zW.nil | apply zW.boxP rfl rfl) ?_; (refine zY.v rfl rfl (zQ rfl rfl rfl (by decide)) ?_); (refine zY.v rfl rfl (zJ rfl rfl rfl (by decide)) ?_); (refine zY.v rfl rfl (zA rfl rfl rfl rfl rfl (by decide)) ?_); (refine zY.v rfl rfl (yO rfl rfl rfl (by rfl) rfl (by decide)) ?_); refine zY.nil ?_) | (refine zX.isR (id := 2) ?_; refine zX.yF [0, 3, 4, 5] [3] (by repeat' first | exact zZ.nil | apply zZ.p rfl | apply zZ.ptr rfl) (by repeat' first | exact zW.nil | apply zW.boxP rfl rfl) (zX.draws ?_); all_goals (refine Draws.v rfl rfl (zJ rfl rfl rfl (by decide)) ?_); all_goals (refine Draws.v rfl rfl (zA rfl rfl rfl rfl rfl (by decide)) ?_); all_goals (refine Draws.v rfl rfl (zK rfl rfl rfl (by decide)) ?_); all_goals (refine Draws.v rfl rfl (zK rfl rfl rfl (by decide)) ?_); all_goals ((refine Draws.done (by kernel_rfl) (by kernel_rfl) (by kernel_rfl) ?_; refine zL.nil ?_))) | (refine zX.isR (id := 3) ?_; refine zX.zV [0, 4, 5] [3] (by repeat' first | exact zZ.nil | apply zZ.p rfl) (by repeat' first | exact zW.nil | apply zW.boxP rfl rfl) ?_; (refine zY.v rfl rfl (zQ rfl rfl rfl (by decide)) ?_); (refine zY.v rfl rfl (zK rfl rfl rfl (by decide)) ?_); (refine zY.v rfl rfl (zK rfl rfl rfl (by decide)) ?_); refine zY.nil ?_) | refine zX.cond rfl (fun h => ?_) (fun h => ?_) | refine zX.skip ?_ | refine zX.ret ?_) | refine yH.r ?_)
  all_goals exact ⟨by first | exact .inl rfl | exact .inr rfl, _, Sub.refl _, .tupE rfl (by decide) (.cons (.tmp rfl) (.cons (.tmp rfl) .nil)) (by simp_all [turnR])⟩
theorem turn4_fn (old kind cell a b : Int) (d w : PV) : Fn Tryd.prog 90 [.val (.int .u64 old), .agg [.val (.int .i64 kind), .val (.int .i64 cell), .val (.int .u64 a), .val (.int .u64 b), d, w]] (.tup [.val (.int .u64 old), .val (.int .u64 (IntKind.u64.wrap (old + a)))]) := by
  refine yM Tryd.func90 rfl Tryd.ntmps90 (Nat.le_of_ble_eq_true rfl) ?_
  repeat' ((refine zX.is ?_; first | refine zX.seq ?_ | (refine zX.isR (id := 0) ?_; refine zX.zV [0, 1] [3] (by repeat' first | exact zZ.nil | apply zZ.p rfl) (by repeat' first | exact zW.nil | apply zW.skip) ?_; (refine zY.m rfl rfl (yX rfl rfl rfl (by decide)) ?_); (refine zY.v rfl rfl (zK rfl rfl rfl (by decide)) ?_); (refine zY.v rfl rfl (zK rfl rfl rfl (by decide)) ?_); refine zY.nil ?_) | (refine zX.isR (id := 1) ?_; refine zX.yF [0, 3, 4, 5] [3] (by repeat' first | exact zZ.nil | apply zZ.p rfl | apply zZ.ptr rfl) (by repeat' first | exact zW.nil | apply zW.boxP rfl rfl) (zX.draws ?_); all_goals (refine Draws.v rfl rfl (zQ rfl rfl rfl (by decide)) ?_); all_goals (refine Draws.v rfl rfl (zQ rfl rfl rfl (by decide)) ?_); all_goals (refine Draws.v rfl rfl (zJ rfl rfl rfl (by decide)) ?_); all_goals (refine Draws.v rfl rfl (zA rfl rfl rfl rfl rfl (by decide)) ?_); all_goals (refine Draws.v rfl rfl (yE rfl rfl rfl (by rfl) rfl (by decide)) ?_); all_goals (refine Draws.v rfl rfl (zK rfl rfl rfl (by decide)) ?_); all_goals (refine Draws.v rfl rfl (zK rfl rfl rfl (by decide)) ?_); all_goals ((refine Draws.done (by kernel_rfl) (by kernel_rfl) (by kernel_rfl) ?_; refine zL.nil ?_))) | refine zX.ret ?_))
  all_goals exact ⟨by first | exact .inl rfl | exact .inr rfl, _, Sub.refl _, .tupE rfl (by decide) (.cons (.tmp rfl) (.cons (.tmp rfl) .nil)) rfl⟩
theorem turn5_fn (old kind cell a b : Int) (d w : PV) : Fn Tryd.prog 91 [.val (.int .u64 old), .agg [.val (.int .i64 kind), .val (.int .i64 cell), .val (.int .u64 a), .val (.int .u64 b), d, w]] (.tup [.val (.int .u64 old), .val (.int .u64 (a))]) := by
  refine yM Tryd.func91 rfl Tryd.ntmps91 (Nat.le_of_ble_eq_true rfl) ?_
  repeat' ((refine zX.is ?_; first | refine zX.seq ?_ | (refine zX.isR (id := 0) ?_; refine zX.zV [0, 1] [3] (by repeat' first | exact zZ.nil | apply zZ.p rfl) (by repeat' first | exact zW.nil | apply zW.skip) ?_; (refine zY.m rfl rfl (yX rfl rfl rfl (by decide)) ?_); (refine zY.v rfl rfl (zK rfl rfl rfl (by decide)) ?_); (refine zY.v rfl rfl (zK rfl rfl rfl (by decide)) ?_); refine zY.nil ?_) | (refine zX.isR (id := 1) ?_; refine zX.yF [0, 3, 4, 5] [3] (by repeat' first | exact zZ.nil | apply zZ.p rfl | apply zZ.ptr rfl) (by repeat' first | exact zW.nil | apply zW.boxP rfl rfl) (zX.draws ?_); all_goals (refine Draws.v rfl rfl (zQ rfl rfl rfl (by decide)) ?_); all_goals (refine Draws.v rfl rfl (zJ rfl rfl rfl (by decide)) ?_); all_goals (refine Draws.v rfl rfl (zA rfl rfl rfl rfl rfl (by decide)) ?_); all_goals (refine Draws.v rfl rfl (zK rfl rfl rfl (by decide)) ?_); all_goals (refine Draws.v rfl rfl (zK rfl rfl rfl (by decide)) ?_); all_goals ((refine Draws.done (by kernel_rfl) (by kernel_rfl) (by kernel_rfl) ?_; refine zL.nil ?_))) | refine zX.ret ?_))
  all_goals exact ⟨by first | exact .inl rfl | exact .inr rfl, _, Sub.refl _, .tupE rfl (by decide) (.cons (.tmp rfl) (.cons (.tmp rfl) .nil)) rfl⟩
end Go.Proofs.YthnmfmdkdngggaaDoor
/- An access of a word: contracts. -/
namespace Go.Proofs.YthnmfmdkdngggaaDoor
set_option maxRecDepth 100000
set_option maxHeartbeats 16000000
open Go Go.RowKit
set_option linter.unusedSimpArgs false
attribute [local irreducible] zY zX Step zC Sub zL zI Fn
def memV (t c : Int) (ws : List Int) : PV := .agg [.val (.int .i64 t), .val (.int .i64 c), .sl (wds ws)]
def resN (n : Int) : PV := .agg [.val (.int .u64 n), .val (.slice none 0 0), .val (.bool false)]
theorem turns_cells : ∀ e ∈ turnsL, e.cells.length = 2 := fun e he => by
  simp only [turnsL, List.mem_cons, List.not_mem_nil, or_false] at he
  rcases he with rfl | rfl | rfl | rfl | rfl <;> rfl
theorem wds_set (ws : List Int) (i : Nat) (x : Int) : (wds ws).set i (.val (.int .u64 x)) = wds (ws.set i x) := by simp [wds, List.map_set]
theorem wds_at {ws : List Int} {i : Nat} {x : Int} (h : ws[i]? = some x) : (wds ws)[i]? = some (.val (.int .u64 x)) := by simp [wds, h]
theorem wP {ws : List Int} {i : Nat} {x : Int} (h : ws[i]? = some x) : ws.set i x = ws := by
  apply List.ext_getElem?
  intro j
  rw [List.getElem?_set]
  by_cases hj : i = j
  · subst hj
    have := (List.getElem?_eq_some_iff.1 h).1
    rw [if_pos rfl, if_pos this, h]
  · rw [if_neg hj]
theorem eq_of_nd {x y : Int} (h : (!decide (x = y)) = false) : x = y := by simpa using h
theorem xG {t c n n' : Int} {ws' : List Int} {W : List PV} (h1 : W = wds ws') (h2 : n = n') : [memV t c ws', resN n'] = [.agg [.val (.int .i64 t), .val (.int .i64 c), .sl W], .agg [.val (.int .u64 n), .val (.slice none 0 0), .val (.bool false)]] := by
  subst h1 h2
  rfl
def wordsS (t c kind a b old : Int) (i : Nat) (ws : List Int) (d : PV) (k : Nat) : AS :=
  { t := [(2, .ptr 2 0), (3, .ptr 3 0), (4, .ptr 4 0), (5, .ptr 5 0), (6, .p (.val (.int .u64 old))), (30, .p (.sl turnsL)), (31, .p (.val (.int .i64 5))), (32, .p (.val (.int .i64 (k : Nat))))],
    s := [(2, .box 27 [.p (.val (.int .i64 t)), .p (.val (.int .i64 c)), .p (.sl (wds ws))]), (3, .box 55 [.p (.val (.int .i64 kind)), .p (.val (.int .i64 i)), .p (.val (.int .u64 a)), .p (.val (.int .u64 b)), .p d, .p y8]),
      (4, .box 27 [.p (.val (.int .i64 0)), .p (.val (.int .i64 0)), .p (.val (.slice none 0 0))]), (5, .box 60 [.p (.val (.int .u64 0)), .p (.val (.slice none 0 0)), .p (.val (.bool false))])] }
theorem words_fn (t c kd a b old : Int) (hkd : 0 ≤ kd ∧ kd ≤ 4) (i : Nat) (ws : List Int) (d : PV) (hi : ws[i]? = some old) (h1 : ws.length ≤ 1000000) :
    Fn Tryd.prog 41 [memV t c ws, accV kd i a b d] (.tup [memV t c (ws.set i (turnR kd old a b).2), resN (turnR kd old a b).1]) := by
  have hlt : i < ws.length := (List.getElem?_eq_some_iff.1 hi).1
  have g1 := wds_cells ws
  have g2 := turns_cells
  have g3 := wds_at hi
  have g4 : decide ((i : Int) < 0) = false := decide_eq_false (by omega)
  have g5 : decide (((wds ws).length : Int) ≤ (i : Int)) = false := decide_eq_false (by rw [wds_len]; omega)
  have g6 : (0 : Int) ≤ (i : Int) ∧ (i : Int) < (wds ws).length := by rw [wds_len]; omega
  have g7 : (i : Int).toNat < (wds ws).length := by rw [wds_len]; omega
  have c1 := cloneW_fn ws (by omega) h1
  refine yM Tryd.func41 rfl Tryd.ntmps41 (Nat.le_of_ble_eq_true rfl) ?_
  repeat' ((refine zX.is ?_; first | refine zX.seq ?_ | (refine zX.isR (id := 0) ?_; refine zX.zV [0, 1] [2, 3, 4, 5, 8, 19, 30, 31, 46, 54] (by repeat' first | exact zZ.nil | apply zZ.p rfl) (by repeat' first | exact zW.nil | apply zW.skip) ?_; (refine zY.m rfl rfl (yX rfl rfl rfl (by decide)) ?_); (refine zY.m rfl rfl (yX rfl rfl rfl (by decide)) ?_); (refine zY.m rfl rfl (zG rfl (by decide) rfl (by decide)) ?_); (refine zY.m rfl rfl (zG rfl (by decide) rfl (by decide)) ?_); refine zY.nil ?_) | (refine zX.isR (id := 1) ?_; refine zX.zV [2, 3, 4, 5] [2, 3, 4, 5, 8, 19, 30, 31, 46, 54] (by repeat' first | exact zZ.nil | apply zZ.ptr rfl) (by repeat' first | exact zW.nil | apply zW.boxP rfl rfl | apply zW.skip) ?_; all_goals (refine zY.v rfl rfl (zJ rfl rfl rfl (by decide)) ?_); all_goals (refine zY.v rfl rfl (zA rfl rfl rfl (by rfl) rfl (by decide)) ?_); all_goals (refine zY.v rfl rfl (by exact yI rfl rfl rfl (by exact g4) rfl (by decide)) ?_); all_goals (refine zY.v rfl rfl (zQ rfl rfl rfl (by decide)) ?_); all_goals (refine zY.gY rfl rfl (by decide) rfl (by assumption) rfl (by decide) (zJ rfl rfl rfl (by decide)) ?_); all_goals (refine zY.gY rfl rfl (by decide) rfl (by assumption) rfl (by decide) (zA rfl rfl rfl (by rfl) rfl (by decide)) ?_); all_goals (refine zY.gY rfl rfl (by decide) rfl (by assumption) rfl (by decide) (zJ rfl rfl rfl (by decide)) ?_); all_goals (refine zY.gY rfl rfl (by decide) rfl (by assumption) rfl (by decide) (zA rfl rfl rfl (by rfl) rfl (by decide)) ?_); all_goals (refine zY.gY rfl rfl (by decide) rfl (by assumption) rfl (by decide) (wC rfl rfl rfl (by decide)) ?_); all_goals (refine zY.gY rfl rfl (by decide) rfl (by assumption) rfl (by decide) (by exact r_geq rfl rfl rfl (by exact g5) rfl (by decide)) ?_); all_goals (refine zY.v rfl rfl (by exact yC rfl rfl (by assumption) rfl rfl (by decide)) ?_); all_goals (refine zY.nil ?_)) | (refine zX.isR (id := 3) ?_; refine zX.zV [2, 3, 4, 5] [2, 3, 4, 5, 8, 19, 30, 31, 46, 54] (by repeat' first | exact zZ.nil | apply zZ.ptr rfl) (by repeat' first | exact zW.nil | apply zW.boxP rfl rfl | apply zW.skip) ?_; (refine zY.v rfl rfl (zJ rfl rfl rfl (by decide)) ?_); (refine zY.v rfl rfl (zA rfl rfl rfl (by rfl) rfl (by decide)) ?_); (refine zY.v rfl rfl (zJ rfl rfl rfl (by decide)) ?_); (refine zY.v rfl rfl (zA rfl rfl rfl (by rfl) rfl (by decide)) ?_); (refine zY.v rfl rfl (by exact yL rfl rfl rfl (by exact g1) (by exact g3) rfl (by decide)) ?_); (refine zY.v rfl rfl (yK rfl rfl rfl rfl (by decide)) ?_); (refine zY.v rfl rfl (zK rfl rfl rfl (by decide)) ?_); refine zY.nil ?_) | (refine zX.isR (id := 4) ?_; refine zX.zV [2, 3, 4, 5, 6] [2, 3, 4, 5, 8, 19, 30, 31, 46, 54] (by repeat' first | exact zZ.nil | apply zZ.p rfl | apply zZ.ptr rfl) (by repeat' first | exact zW.nil | apply zW.boxP rfl rfl | apply zW.skip) ?_; (refine zY.v rfl rfl (by exact zR (turns_fn) rfl rfl rfl (by decide)) ?_); (refine zY.v rfl rfl (wC rfl rfl rfl (by decide)) ?_); (refine zY.v rfl rfl (zQ rfl rfl rfl (by decide)) ?_); refine zY.nil ?_) | refine zX.yN rfl (by assumption) ?_ | refine zX.skip ?_ | refine zX.block ?_))
  refine zX.loop (wordsS t c kd a b old i ws d) (fun k => (k : Int) ≤ kd) (fun k => 5 - k) 0 ?h0 hkd.1 ?rd
  case h0 =>
    refine zN (is := [2, 3, 4, 5, 6, 30, 31, 32]) (js := [2, 3, 4, 5]) ?_ ?_
    repeat' first | exact zZ.nil | apply zZ.p rfl | apply zZ.ptr rfl | apply zZ.own rfl | apply zZ.clo rfl | apply zZ.pt rfl | apply zZ.tup rfl | apply zZ.skip
    repeat' first | exact zW.nil | apply zW.boxP rfl rfl | apply zW.yG rfl | apply zW.some rfl | apply zW.skip
  case rd =>
    rintro k hk
    have hk6 : k = 0 ∨ k = 1 ∨ k = 2 ∨ k = 3 ∨ k = 4 := by omega
    rcases hk6 with rfl | rfl | rfl | rfl | rfl
    · have gl : decide (((0 : Nat) : Int) < 5) = true := rfl
      by_cases hke : kd = 0
      case neg =>
        have gw : IntKind.i64.wrap (((0 : Nat) : Int) + 1) = ((1 : Nat) : Int) := rfl
        have gd : (!decide ((0 : Int) = kd)) = true := by simp; omega
        repeat' (first | (refine zX.is ?_; first | refine zX.seq ?_ | (refine zX.isR (id := 5) ?_; refine zX.zV [2, 3, 4, 5, 6, 8, 9, 10, 30, 31, 32, 33, 40, 51] [2, 3, 4, 5, 8, 19, 30, 31, 46, 54] (by repeat' first | exact zZ.nil | apply zZ.p rfl | apply zZ.ptr rfl | apply zZ.skip) (by repeat' first | exact zW.nil | apply zW.boxP rfl rfl | apply zW.skip) ?_; (refine zY.v rfl rfl (by exact yI rfl rfl rfl (by exact gl) rfl (by decide)) ?_); refine zY.nil ?_) | (refine zX.isR (id := 6) ?_; refine zX.zV [2, 3, 4, 5, 6, 8, 9, 10, 30, 31, 32, 33, 40, 51] [2, 3, 4, 5, 8, 19, 30, 31, 46, 54] (by repeat' first | exact zZ.nil | apply zZ.p rfl | apply zZ.ptr rfl | apply zZ.skip) (by repeat' first | exact zW.nil | apply zW.boxP rfl rfl | apply zW.skip) ?_; (refine zY.v rfl rfl (by exact yL rfl rfl rfl (by exact g2) (by rfl) rfl (by decide)) ?_); (refine zY.v rfl rfl (by exact wS rfl rfl (by exact Nat.le_of_ble_eq_true rfl) rfl (by decide)) ?_); (refine zY.m rfl rfl (zG rfl (by decide) rfl (by decide)) ?_); (refine zY.w rfl (by exact zB rfl rfl rfl rfl rfl (by rfl) (by exact Nat.le_of_ble_eq_true rfl) rfl rfl) ?_); refine zY.nil ?_) | (refine zX.isR (id := 7) ?_; refine zX.zV [2, 3, 4, 5, 6, 8, 9, 10, 30, 31, 32, 33, 40, 51] [2, 3, 4, 5, 8, 19, 30, 31, 46, 54] (by repeat' first | exact zZ.nil | apply zZ.p rfl | apply zZ.ptr rfl | apply zZ.skip) (by repeat' first | exact zW.nil | apply zW.boxP rfl rfl | apply zW.skip) ?_; (refine zY.v rfl rfl (zJ rfl rfl rfl (by decide)) ?_); (refine zY.v rfl rfl (zA rfl rfl rfl (by rfl) rfl (by decide)) ?_); (refine zY.v rfl rfl (zJ rfl rfl rfl (by decide)) ?_); (refine zY.v rfl rfl (zA rfl rfl rfl (by rfl) rfl (by decide)) ?_); (refine zY.v rfl rfl (by exact xR rfl rfl rfl (by exact gd) rfl (by decide)) ?_); refine zY.nil ?_) | (refine zX.isR (id := 13) ?_; refine zX.zV [2, 3, 4, 5, 6, 8, 9, 10, 30, 31, 32, 33, 40, 51] [2, 3, 4, 5, 8, 19, 30, 31, 46, 54] (by repeat' first | exact zZ.nil | apply zZ.p rfl | apply zZ.ptr rfl | apply zZ.skip) (by repeat' first | exact zW.nil | apply zW.boxP rfl rfl | apply zW.skip) ?_; (refine zY.v rfl rfl (by exact yE rfl rfl rfl (by exact gw) rfl (by decide)) ?_); (refine zY.v rfl rfl (zQ rfl rfl rfl (by decide)) ?_); refine zY.nil ?_) | refine zX.yS rfl (by assumption) ?_ | refine zX.skip ?_ | refine zX.block ?_ | refine zX.exit ?_) | refine yH.n ?_)
        refine ⟨1, ?_, (by omega), by decide⟩
        refine zN (is := [2, 3, 4, 5, 6, 30, 31, 32]) (js := [2, 3, 4, 5]) ?_ ?_
        repeat' first | exact zZ.nil | apply zZ.p rfl | apply zZ.ptr rfl | apply zZ.own rfl | apply zZ.clo rfl | apply zZ.pt rfl | apply zZ.tup rfl | apply zZ.skip
        repeat' first | exact zW.nil | apply zW.boxP rfl rfl | apply zW.yG rfl | apply zW.some rfl | apply zW.skip
      case pos =>
        subst hke
        have gx : ∀ x : Int, (!decide (x = x)) = false := fun x => by simp
        repeat' (first | (refine zX.is ?_; first | refine zX.seq ?_ | (refine zX.isR (id := 5) ?_; refine zX.zV [2, 3, 4, 5, 6, 8, 9, 10, 30, 31, 32, 33, 40, 51] [2, 3, 4, 5, 8, 19, 30, 31, 46, 54] (by repeat' first | exact zZ.nil | apply zZ.p rfl | apply zZ.ptr rfl | apply zZ.skip) (by repeat' first | exact zW.nil | apply zW.boxP rfl rfl | apply zW.skip) ?_; (refine zY.v rfl rfl (by exact yI rfl rfl rfl (by exact gl) rfl (by decide)) ?_); refine zY.nil ?_) | (refine zX.isR (id := 6) ?_; refine zX.zV [2, 3, 4, 5, 6, 8, 9, 10, 30, 31, 32, 33, 40, 51] [2, 3, 4, 5, 8, 19, 30, 31, 46, 54] (by repeat' first | exact zZ.nil | apply zZ.p rfl | apply zZ.ptr rfl | apply zZ.skip) (by repeat' first | exact zW.nil | apply zW.boxP rfl rfl | apply zW.skip) ?_; (refine zY.v rfl rfl (by exact yL rfl rfl rfl (by exact g2) (by rfl) rfl (by decide)) ?_); (refine zY.v rfl rfl (by exact wS rfl rfl (by exact Nat.le_of_ble_eq_true rfl) rfl (by decide)) ?_); (refine zY.m rfl rfl (zG rfl (by decide) rfl (by decide)) ?_); (refine zY.w rfl (by exact zB rfl rfl rfl rfl rfl (by rfl) (by exact Nat.le_of_ble_eq_true rfl) rfl rfl) ?_); refine zY.nil ?_) | (refine zX.isR (id := 7) ?_; refine zX.zV [2, 3, 4, 5, 6, 8, 9, 10, 30, 31, 32, 33, 40, 51] [2, 3, 4, 5, 8, 19, 30, 31, 46, 54] (by repeat' first | exact zZ.nil | apply zZ.p rfl | apply zZ.ptr rfl | apply zZ.skip) (by repeat' first | exact zW.nil | apply zW.boxP rfl rfl | apply zW.skip) ?_; (refine zY.v rfl rfl (zJ rfl rfl rfl (by decide)) ?_); (refine zY.v rfl rfl (zA rfl rfl rfl (by rfl) rfl (by decide)) ?_); (refine zY.v rfl rfl (zJ rfl rfl rfl (by decide)) ?_); (refine zY.v rfl rfl (zA rfl rfl rfl (by rfl) rfl (by decide)) ?_); (refine zY.v rfl rfl (by exact xR rfl rfl rfl (by exact gx _) rfl (by decide)) ?_); refine zY.nil ?_) | (refine zX.isR (id := 8) ?_; refine zX.zV [2, 3, 4, 5, 6, 8, 9, 10, 30, 31, 32, 33, 40, 51] [2, 3, 4, 5, 8, 19, 30, 31, 46, 54] (by repeat' first | exact zZ.nil | apply zZ.p rfl | apply zZ.ptr rfl | apply zZ.skip) (by repeat' first | exact zW.nil | apply zW.boxP rfl rfl | apply zW.skip) ?_; (refine zY.v rfl rfl (zJ rfl rfl rfl (by decide)) ?_); (refine zY.v rfl rfl (zA rfl rfl rfl (by rfl) rfl (by decide)) ?_); (refine zY.v rfl rfl (zQ rfl rfl rfl (by decide)) ?_); (refine zY.v rfl rfl (zD rfl rfl rfl (by rfl) (by rfl) rfl (by decide)) ?_); (refine zY.ofT rfl (zI.wL [] (FnE.ofFnT (turn1_fn old 0 i a b d y8)) rfl (by decide) (vI rfl rfl) (by rfl) (zS (by decide) rfl (by repeat' exact trivial)) rfl rfl rfl rfl ?_)); (refine zY.v rfl rfl (yD rfl rfl rfl (by decide)) ?_); (refine zY.v rfl rfl (zF rfl rfl rfl rfl (by decide)) ?_); (refine zY.v rfl rfl (zF rfl rfl rfl rfl (by decide)) ?_); (refine zY.v rfl rfl (zK rfl rfl rfl (by decide)) ?_); (refine zY.v rfl rfl (zK rfl rfl rfl (by decide)) ?_); refine zY.nil ?_) | (refine zX.isR (id := 9) ?_; refine zX.zV [2, 3, 4, 5, 6, 8, 9, 10, 30, 31, 32, 33, 40, 51] [2, 3, 4, 5, 8, 19, 30, 31, 46, 54] (by repeat' first | exact zZ.nil | apply zZ.p rfl | apply zZ.ptr rfl | apply zZ.skip) (by repeat' first | exact zW.nil | apply zW.boxP rfl rfl | apply zW.skip) ?_; (refine zY.v rfl rfl (zQ rfl rfl rfl (by decide)) ?_); (refine zY.v rfl rfl (zQ rfl rfl rfl (by decide)) ?_); (refine zY.v rfl rfl (by exact xR rfl rfl rfl (by exact gx _) rfl (by decide)) ?_); refine zY.nil ?_) | (refine zX.isR (id := 12) ?_; refine zX.zV [2, 3, 4, 5, 6, 8, 9, 10, 30, 31, 32, 33, 40, 51] [2, 3, 4, 5, 8, 19, 30, 31, 46, 54] (by repeat' first | exact zZ.nil | apply zZ.p rfl | apply zZ.ptr rfl) (by repeat' first | exact zW.nil | apply zW.boxP rfl rfl | apply zW.skip) ?_; (refine zY.v rfl rfl (zD rfl rfl rfl (by rfl) (by rfl) rfl (by decide)) ?_); (refine zY.v rfl rfl (zQ rfl rfl rfl (by decide)) ?_); (refine zY.v rfl rfl (zT rfl (by rfl) (by rfl) (by rfl) (by rfl) rfl (by decide)) ?_); (refine zY.w rfl (by exact zB rfl rfl rfl rfl rfl (by rfl) (by exact Nat.le_of_ble_eq_true rfl) rfl rfl) ?_); (refine zY.w rfl (by exact zB rfl rfl rfl rfl rfl (by rfl) (by exact Nat.le_of_ble_eq_true rfl) rfl rfl) ?_); refine zY.nil ?_) | refine zX.yS rfl (by assumption) ?_ | refine zX.yN rfl (by assumption) ?_ | refine zX.skip ?_ | refine zX.block ?_ | refine zX.ret ?_) | refine yH.r ?_ | refine wH.r ?_)
        all_goals refine ⟨by first | exact .inl rfl | exact .inr rfl, _, Sub.refl _, .tupE (rs := [.cell 4 27, .cell 5 60]) rfl (by decide) (.cons (.cellN rfl rfl (by rfl) (by rfl)) (.cons (.cellN rfl rfl (by rfl) (by rfl)) .nil)) ?_⟩
        all_goals first
          | exact xG (wds_set ws i _) rfl
          | exact xG (congrArg wds (wP (hi.trans (congrArg some (eq_of_nd h).symm))).symm) rfl
          | exact xG (congrArg wds (wP hi).symm) rfl
    · have gl : decide (((1 : Nat) : Int) < 5) = true := rfl
      by_cases hke : kd = 1
      case neg =>
        have gw : IntKind.i64.wrap (((1 : Nat) : Int) + 1) = ((2 : Nat) : Int) := rfl
        have gd : (!decide ((1 : Int) = kd)) = true := by simp; omega
        repeat' (first | (refine zX.is ?_; first | refine zX.seq ?_ | (refine zX.isR (id := 5) ?_; refine zX.zV [2, 3, 4, 5, 6, 8, 9, 10, 30, 31, 32, 33, 40, 51] [2, 3, 4, 5, 8, 19, 30, 31, 46, 54] (by repeat' first | exact zZ.nil | apply zZ.p rfl | apply zZ.ptr rfl | apply zZ.skip) (by repeat' first | exact zW.nil | apply zW.boxP rfl rfl | apply zW.skip) ?_; (refine zY.v rfl rfl (by exact yI rfl rfl rfl (by exact gl) rfl (by decide)) ?_); refine zY.nil ?_) | (refine zX.isR (id := 6) ?_; refine zX.zV [2, 3, 4, 5, 6, 8, 9, 10, 30, 31, 32, 33, 40, 51] [2, 3, 4, 5, 8, 19, 30, 31, 46, 54] (by repeat' first | exact zZ.nil | apply zZ.p rfl | apply zZ.ptr rfl | apply zZ.skip) (by repeat' first | exact zW.nil | apply zW.boxP rfl rfl | apply zW.skip) ?_; (refine zY.v rfl rfl (by exact yL rfl rfl rfl (by exact g2) (by rfl) rfl (by decide)) ?_); (refine zY.v rfl rfl (by exact wS rfl rfl (by exact Nat.le_of_ble_eq_true rfl) rfl (by decide)) ?_); (refine zY.m rfl rfl (zG rfl (by decide) rfl (by decide)) ?_); (refine zY.w rfl (by exact zB rfl rfl rfl rfl rfl (by rfl) (by exact Nat.le_of_ble_eq_true rfl) rfl rfl) ?_); refine zY.nil ?_) | (refine zX.isR (id := 7) ?_; refine zX.zV [2, 3, 4, 5, 6, 8, 9, 10, 30, 31, 32, 33, 40, 51] [2, 3, 4, 5, 8, 19, 30, 31, 46, 54] (by repeat' first | exact zZ.nil | apply zZ.p rfl | apply zZ.ptr rfl | apply zZ.skip) (by repeat' first | exact zW.nil | apply zW.boxP rfl rfl | apply zW.skip) ?_; (refine zY.v rfl rfl (zJ rfl rfl rfl (by decide)) ?_); (refine zY.v rfl rfl (zA rfl rfl rfl (by rfl) rfl (by decide)) ?_); (refine zY.v rfl rfl (zJ rfl rfl rfl (by decide)) ?_); (refine zY.v rfl rfl (zA rfl rfl rfl (by rfl) rfl (by decide)) ?_); (refine zY.v rfl rfl (by exact xR rfl rfl rfl (by exact gd) rfl (by decide)) ?_); refine zY.nil ?_) | (refine zX.isR (id := 13) ?_; refine zX.zV [2, 3, 4, 5, 6, 8, 9, 10, 30, 31, 32, 33, 40, 51] [2, 3, 4, 5, 8, 19, 30, 31, 46, 54] (by repeat' first | exact zZ.nil | apply zZ.p rfl | apply zZ.ptr rfl | apply zZ.skip) (by repeat' first | exact zW.nil | apply zW.boxP rfl rfl | apply zW.skip) ?_; (refine zY.v rfl rfl (by exact yE rfl rfl rfl (by exact gw) rfl (by decide)) ?_); (refine zY.v rfl rfl (zQ rfl rfl rfl (by decide)) ?_); refine zY.nil ?_) | refine zX.yS rfl (by assumption) ?_ | refine zX.skip ?_ | refine zX.block ?_ | refine zX.exit ?_) | refine yH.n ?_)
        refine ⟨2, ?_, (by omega), by decide⟩
        refine zN (is := [2, 3, 4, 5, 6, 30, 31, 32]) (js := [2, 3, 4, 5]) ?_ ?_
        repeat' first | exact zZ.nil | apply zZ.p rfl | apply zZ.ptr rfl | apply zZ.own rfl | apply zZ.clo rfl | apply zZ.pt rfl | apply zZ.tup rfl | apply zZ.skip
        repeat' first | exact zW.nil | apply zW.boxP rfl rfl | apply zW.yG rfl | apply zW.some rfl | apply zW.skip
      case pos =>
        subst hke
        have gx : ∀ x : Int, (!decide (x = x)) = false := fun x => by simp
        repeat' (first | (refine zX.is ?_; first | refine zX.seq ?_ | (refine zX.isR (id := 5) ?_; refine zX.zV [2, 3, 4, 5, 6, 8, 9, 10, 30, 31, 32, 33, 40, 51] [2, 3, 4, 5, 8, 19, 30, 31, 46, 54] (by repeat' first | exact zZ.nil | apply zZ.p rfl | apply zZ.ptr rfl | apply zZ.skip) (by repeat' first | exact zW.nil | apply zW.boxP rfl rfl | apply zW.skip) ?_; (refine zY.v rfl rfl (by exact yI rfl rfl rfl (by exact gl) rfl (by decide)) ?_); refine zY.nil ?_) | (refine zX.isR (id := 6) ?_; refine zX.zV [2, 3, 4, 5, 6, 8, 9, 10, 30, 31, 32, 33, 40, 51] [2, 3, 4, 5, 8, 19, 30, 31, 46, 54] (by repeat' first | exact zZ.nil | apply zZ.p rfl | apply zZ.ptr rfl | apply zZ.skip) (by repeat' first | exact zW.nil | apply zW.boxP rfl rfl | apply zW.skip) ?_; (refine zY.v rfl rfl (by exact yL rfl rfl rfl (by exact g2) (by rfl) rfl (by decide)) ?_); (refine zY.v rfl rfl (by exact wS rfl rfl (by exact Nat.le_of_ble_eq_true rfl) rfl (by decide)) ?_); (refine zY.m rfl rfl (zG rfl (by decide) rfl (by decide)) ?_); (refine zY.w rfl (by exact zB rfl rfl rfl rfl rfl (by rfl) (by exact Nat.le_of_ble_eq_true rfl) rfl rfl) ?_); refine zY.nil ?_) | (refine zX.isR (id := 7) ?_; refine zX.zV [2, 3, 4, 5, 6, 8, 9, 10, 30, 31, 32, 33, 40, 51] [2, 3, 4, 5, 8, 19, 30, 31, 46, 54] (by repeat' first | exact zZ.nil | apply zZ.p rfl | apply zZ.ptr rfl | apply zZ.skip) (by repeat' first | exact zW.nil | apply zW.boxP rfl rfl | apply zW.skip) ?_; (refine zY.v rfl rfl (zJ rfl rfl rfl (by decide)) ?_); (refine zY.v rfl rfl (zA rfl rfl rfl (by rfl) rfl (by decide)) ?_); (refine zY.v rfl rfl (zJ rfl rfl rfl (by decide)) ?_); (refine zY.v rfl rfl (zA rfl rfl rfl (by rfl) rfl (by decide)) ?_); (refine zY.v rfl rfl (by exact xR rfl rfl rfl (by exact gx _) rfl (by decide)) ?_); refine zY.nil ?_) | (refine zX.isR (id := 8) ?_; refine zX.zV [2, 3, 4, 5, 6, 8, 9, 10, 30, 31, 32, 33, 40, 51] [2, 3, 4, 5, 8, 19, 30, 31, 46, 54] (by repeat' first | exact zZ.nil | apply zZ.p rfl | apply zZ.ptr rfl | apply zZ.skip) (by repeat' first | exact zW.nil | apply zW.boxP rfl rfl | apply zW.skip) ?_; (refine zY.v rfl rfl (zJ rfl rfl rfl (by decide)) ?_); (refine zY.v rfl rfl (zA rfl rfl rfl (by rfl) rfl (by decide)) ?_); (refine zY.v rfl rfl (zQ rfl rfl rfl (by decide)) ?_); (refine zY.v rfl rfl (zD rfl rfl rfl (by rfl) (by rfl) rfl (by decide)) ?_); (refine zY.ofT rfl (zI.wL [] (FnE.ofFnT (turn2_fn old 1 i a b d y8)) rfl (by decide) (vI rfl rfl) (by rfl) (zS (by decide) rfl (by repeat' exact trivial)) rfl rfl rfl rfl ?_)); (refine zY.v rfl rfl (yD rfl rfl rfl (by decide)) ?_); (refine zY.v rfl rfl (zF rfl rfl rfl rfl (by decide)) ?_); (refine zY.v rfl rfl (zF rfl rfl rfl rfl (by decide)) ?_); (refine zY.v rfl rfl (zK rfl rfl rfl (by decide)) ?_); (refine zY.v rfl rfl (zK rfl rfl rfl (by decide)) ?_); refine zY.nil ?_) | (refine zX.isR (id := 9) ?_; refine zX.zV [2, 3, 4, 5, 6, 8, 9, 10, 30, 31, 32, 33, 40, 51] [2, 3, 4, 5, 8, 19, 30, 31, 46, 54] (by repeat' first | exact zZ.nil | apply zZ.p rfl | apply zZ.ptr rfl | apply zZ.skip) (by repeat' first | exact zW.nil | apply zW.boxP rfl rfl | apply zW.skip) ?_; (refine zY.v rfl rfl (zQ rfl rfl rfl (by decide)) ?_); (refine zY.v rfl rfl (zQ rfl rfl rfl (by decide)) ?_); (refine zY.v rfl rfl (xR rfl rfl rfl (by rfl) rfl (by decide)) ?_); refine zY.nil ?_) | (refine zX.isR (id := 10) ?_; refine zX.zV [2, 3, 4, 5, 6, 8, 9, 10, 30, 31, 32, 33, 40, 51] [2, 3, 4, 5, 8, 19, 30, 31, 46, 54] (by repeat' first | exact zZ.nil | apply zZ.p rfl | apply zZ.ptr rfl) (by repeat' first | exact zW.nil | apply zW.boxP rfl rfl | apply zW.skip) ?_; (refine zY.v rfl rfl (zJ rfl rfl rfl (by decide)) ?_); (refine zY.v rfl rfl (zA rfl rfl rfl (by rfl) rfl (by decide)) ?_); (refine zY.m rfl rfl (by exact w_callRowV c1 rfl rfl rfl (by decide)) ?_); (refine zY.v rfl rfl (zJ rfl rfl rfl (by decide)) ?_); (refine zY.w rfl (by exact w_storeO rfl rfl rfl rfl rfl rfl (by exact Nat.le_of_ble_eq_true rfl) rfl rfl) ?_); refine zY.nil ?_) | (refine zX.isR (id := 11) ?_; refine zX.zV [2, 3, 4, 5, 6, 8, 9, 10, 30, 31, 32, 33, 40, 51] [2, 3, 4, 5, 8, 19, 30, 31, 46, 54] (by repeat' first | exact zZ.nil | apply zZ.p rfl | apply zZ.ptr rfl) (by repeat' first | exact zW.nil | apply zW.boxP rfl rfl | apply zW.some rfl | apply zW.skip) ?_; (refine zY.v rfl rfl (zJ rfl rfl rfl (by decide)) ?_); (refine zY.v rfl rfl (w_loadO rfl rfl rfl rfl rfl (by decide)) ?_); (refine zY.v rfl rfl (zJ rfl rfl rfl (by decide)) ?_); (refine zY.v rfl rfl (zA rfl rfl rfl (by rfl) rfl (by decide)) ?_); (refine zY.v rfl rfl (zQ rfl rfl rfl (by decide)) ?_); (refine zY.v rfl rfl (by exact vE rfl rfl rfl rfl (by exact g6) rfl (by decide)) ?_); (refine zY.w rfl (by exact w_storeV rfl rfl rfl rfl rfl (by exact g1) (by rfl) rfl (by exact g7) rfl) ?_); refine zY.nil ?_) | (refine zX.isR (id := 12) ?_; refine zX.sub (sub_frz (id := 54) rfl) ?_; refine zX.zV [2, 3, 4, 5, 6, 8, 9, 10, 30, 31, 32, 33, 40, 51] [2, 3, 4, 5, 8, 19, 30, 31, 46, 54] (by repeat' first | exact zZ.nil | apply zZ.p rfl | apply zZ.ptr rfl) (by repeat' first | exact zW.nil | apply zW.boxP rfl rfl | apply zW.skip) ?_; (refine zY.v rfl rfl (zD rfl rfl rfl (by rfl) (by rfl) rfl (by decide)) ?_); (refine zY.v rfl rfl (zQ rfl rfl rfl (by decide)) ?_); (refine zY.v rfl rfl (zT rfl (by rfl) (by rfl) (by rfl) (by rfl) rfl (by decide)) ?_); (refine zY.w rfl (by exact zB rfl rfl rfl rfl rfl (by rfl) (by exact Nat.le_of_ble_eq_true rfl) rfl rfl) ?_); (refine zY.w rfl (by exact zB rfl rfl rfl rfl rfl (by rfl) (by exact Nat.le_of_ble_eq_true rfl) rfl rfl) ?_); refine zY.nil ?_) | (refine zX.isR (id := 12) ?_; refine zX.zV [2, 3, 4, 5, 6, 8, 9, 10, 30, 31, 32, 33, 40, 51] [2, 3, 4, 5, 8, 19, 30, 31, 46, 54] (by repeat' first | exact zZ.nil | apply zZ.p rfl | apply zZ.ptr rfl) (by repeat' first | exact zW.nil | apply zW.boxP rfl rfl | apply zW.skip) ?_; (refine zY.v rfl rfl (zD rfl rfl rfl (by rfl) (by rfl) rfl (by decide)) ?_); (refine zY.v rfl rfl (zQ rfl rfl rfl (by decide)) ?_); (refine zY.v rfl rfl (zT rfl (by rfl) (by rfl) (by rfl) (by rfl) rfl (by decide)) ?_); (refine zY.w rfl (by exact zB rfl rfl rfl rfl rfl (by rfl) (by exact Nat.le_of_ble_eq_true rfl) rfl rfl) ?_); (refine zY.w rfl (by exact zB rfl rfl rfl rfl rfl (by rfl) (by exact Nat.le_of_ble_eq_true rfl) rfl rfl) ?_); refine zY.nil ?_) | refine zX.yS rfl (by assumption) ?_ | refine zX.yN rfl (by assumption) ?_ | refine zX.cond rfl (fun h => ?_) (fun h => ?_) | refine zX.skip ?_ | refine zX.block ?_ | refine zX.ret ?_) | refine yH.r ?_ | refine wH.r ?_)
        all_goals refine ⟨by first | exact .inl rfl | exact .inr rfl, _, Sub.refl _, .tupE (rs := [.cell 4 27, .cell 5 60]) rfl (by decide) (.cons (.cellN rfl rfl (by rfl) (by rfl)) (.cons (.cellN rfl rfl (by rfl) (by rfl)) .nil)) ?_⟩
        all_goals first
          | exact xG (wds_set ws i _) rfl
          | exact xG (congrArg wds (wP (hi.trans (congrArg some (eq_of_nd h).symm))).symm) rfl
          | exact xG (congrArg wds (wP hi).symm) rfl
    · have gl : decide (((2 : Nat) : Int) < 5) = true := rfl
      by_cases hke : kd = 2
      case neg =>
        have gw : IntKind.i64.wrap (((2 : Nat) : Int) + 1) = ((3 : Nat) : Int) := rfl
        have gd : (!decide ((2 : Int) = kd)) = true := by simp; omega
        repeat' (first | (refine zX.is ?_; first | refine zX.seq ?_ | (refine zX.isR (id := 5) ?_; refine zX.zV [2, 3, 4, 5, 6, 8, 9, 10, 30, 31, 32, 33, 40, 51] [2, 3, 4, 5, 8, 19, 30, 31, 46, 54] (by repeat' first | exact zZ.nil | apply zZ.p rfl | apply zZ.ptr rfl | apply zZ.skip) (by repeat' first | exact zW.nil | apply zW.boxP rfl rfl | apply zW.skip) ?_; (refine zY.v rfl rfl (by exact yI rfl rfl rfl (by exact gl) rfl (by decide)) ?_); refine zY.nil ?_) | (refine zX.isR (id := 6) ?_; refine zX.zV [2, 3, 4, 5, 6, 8, 9, 10, 30, 31, 32, 33, 40, 51] [2, 3, 4, 5, 8, 19, 30, 31, 46, 54] (by repeat' first | exact zZ.nil | apply zZ.p rfl | apply zZ.ptr rfl | apply zZ.skip) (by repeat' first | exact zW.nil | apply zW.boxP rfl rfl | apply zW.skip) ?_; (refine zY.v rfl rfl (by exact yL rfl rfl rfl (by exact g2) (by rfl) rfl (by decide)) ?_); (refine zY.v rfl rfl (by exact wS rfl rfl (by exact Nat.le_of_ble_eq_true rfl) rfl (by decide)) ?_); (refine zY.m rfl rfl (zG rfl (by decide) rfl (by decide)) ?_); (refine zY.w rfl (by exact zB rfl rfl rfl rfl rfl (by rfl) (by exact Nat.le_of_ble_eq_true rfl) rfl rfl) ?_); refine zY.nil ?_) | (refine zX.isR (id := 7) ?_; refine zX.zV [2, 3, 4, 5, 6, 8, 9, 10, 30, 31, 32, 33, 40, 51] [2, 3, 4, 5, 8, 19, 30, 31, 46, 54] (by repeat' first | exact zZ.nil | apply zZ.p rfl | apply zZ.ptr rfl | apply zZ.skip) (by repeat' first | exact zW.nil | apply zW.boxP rfl rfl | apply zW.skip) ?_; (refine zY.v rfl rfl (zJ rfl rfl rfl (by decide)) ?_); (refine zY.v rfl rfl (zA rfl rfl rfl (by rfl) rfl (by decide)) ?_); (refine zY.v rfl rfl (zJ rfl rfl rfl (by decide)) ?_); (refine zY.v rfl rfl (zA rfl rfl rfl (by rfl) rfl (by decide)) ?_); (refine zY.v rfl rfl (by exact xR rfl rfl rfl (by exact gd) rfl (by decide)) ?_); refine zY.nil ?_) | (refine zX.isR (id := 13) ?_; refine zX.zV [2, 3, 4, 5, 6, 8, 9, 10, 30, 31, 32, 33, 40, 51] [2, 3, 4, 5, 8, 19, 30, 31, 46, 54] (by repeat' first | exact zZ.nil | apply zZ.p rfl | apply zZ.ptr rfl | apply zZ.skip) (by repeat' first | exact zW.nil | apply zW.boxP rfl rfl | apply zW.skip) ?_; (refine zY.v rfl rfl (by exact yE rfl rfl rfl (by exact gw) rfl (by decide)) ?_); (refine zY.v rfl rfl (zQ rfl rfl rfl (by decide)) ?_); refine zY.nil ?_) | refine zX.yS rfl (by assumption) ?_ | refine zX.skip ?_ | refine zX.block ?_ | refine zX.exit ?_) | refine yH.n ?_)
        refine ⟨3, ?_, (by omega), by decide⟩
        refine zN (is := [2, 3, 4, 5, 6, 30, 31, 32]) (js := [2, 3, 4, 5]) ?_ ?_
        repeat' first | exact zZ.nil | apply zZ.p rfl | apply zZ.ptr rfl | apply zZ.own rfl | apply zZ.clo rfl | apply zZ.pt rfl | apply zZ.tup rfl | apply zZ.skip
        repeat' first | exact zW.nil | apply zW.boxP rfl rfl | apply zW.yG rfl | apply zW.some rfl | apply zW.skip
      case pos =>
        subst hke
        have gx : ∀ x : Int, (!decide (x = x)) = false := fun x => by simp
        repeat' (first | (refine zX.is ?_; first | refine zX.seq ?_ | (refine zX.isR (id := 5) ?_; refine zX.zV [2, 3, 4, 5, 6, 8, 9, 10, 30, 31, 32, 33, 40, 51] [2, 3, 4, 5, 8, 19, 30, 31, 46, 54] (by repeat' first | exact zZ.nil | apply zZ.p rfl | apply zZ.ptr rfl | apply zZ.skip) (by repeat' first | exact zW.nil | apply zW.boxP rfl rfl | apply zW.skip) ?_; (refine zY.v rfl rfl (by exact yI rfl rfl rfl (by exact gl) rfl (by decide)) ?_); refine zY.nil ?_) | (refine zX.isR (id := 6) ?_; refine zX.zV [2, 3, 4, 5, 6, 8, 9, 10, 30, 31, 32, 33, 40, 51] [2, 3, 4, 5, 8, 19, 30, 31, 46, 54] (by repeat' first | exact zZ.nil | apply zZ.p rfl | apply zZ.ptr rfl | apply zZ.skip) (by repeat' first | exact zW.nil | apply zW.boxP rfl rfl | apply zW.skip) ?_; (refine zY.v rfl rfl (by exact yL rfl rfl rfl (by exact g2) (by rfl) rfl (by decide)) ?_); (refine zY.v rfl rfl (by exact wS rfl rfl (by exact Nat.le_of_ble_eq_true rfl) rfl (by decide)) ?_); (refine zY.m rfl rfl (zG rfl (by decide) rfl (by decide)) ?_); (refine zY.w rfl (by exact zB rfl rfl rfl rfl rfl (by rfl) (by exact Nat.le_of_ble_eq_true rfl) rfl rfl) ?_); refine zY.nil ?_) | (refine zX.isR (id := 7) ?_; refine zX.zV [2, 3, 4, 5, 6, 8, 9, 10, 30, 31, 32, 33, 40, 51] [2, 3, 4, 5, 8, 19, 30, 31, 46, 54] (by repeat' first | exact zZ.nil | apply zZ.p rfl | apply zZ.ptr rfl | apply zZ.skip) (by repeat' first | exact zW.nil | apply zW.boxP rfl rfl | apply zW.skip) ?_; (refine zY.v rfl rfl (zJ rfl rfl rfl (by decide)) ?_); (refine zY.v rfl rfl (zA rfl rfl rfl (by rfl) rfl (by decide)) ?_); (refine zY.v rfl rfl (zJ rfl rfl rfl (by decide)) ?_); (refine zY.v rfl rfl (zA rfl rfl rfl (by rfl) rfl (by decide)) ?_); (refine zY.v rfl rfl (by exact xR rfl rfl rfl (by exact gx _) rfl (by decide)) ?_); refine zY.nil ?_) | (refine zX.isR (id := 8) ?_; refine zX.zV [2, 3, 4, 5, 6, 8, 9, 10, 30, 31, 32, 33, 40, 51] [2, 3, 4, 5, 8, 19, 30, 31, 46, 54] (by repeat' first | exact zZ.nil | apply zZ.p rfl | apply zZ.ptr rfl | apply zZ.skip) (by repeat' first | exact zW.nil | apply zW.boxP rfl rfl | apply zW.skip) ?_; (refine zY.v rfl rfl (zJ rfl rfl rfl (by decide)) ?_); (refine zY.v rfl rfl (zA rfl rfl rfl (by rfl) rfl (by decide)) ?_); (refine zY.v rfl rfl (zQ rfl rfl rfl (by decide)) ?_); (refine zY.v rfl rfl (zD rfl rfl rfl (by rfl) (by rfl) rfl (by decide)) ?_); (refine zY.ofT rfl (zI.wL [] (FnE.ofFnT (turn3_fn old 2 i a b d y8)) rfl (by decide) (vI rfl rfl) (by rfl) (zS (by decide) rfl (by repeat' exact trivial)) rfl rfl rfl rfl ?_)); (refine zY.v rfl rfl (yD rfl rfl rfl (by decide)) ?_); (refine zY.v rfl rfl (zF rfl rfl rfl rfl (by decide)) ?_); (refine zY.v rfl rfl (zF rfl rfl rfl rfl (by decide)) ?_); (refine zY.v rfl rfl (zK rfl rfl rfl (by decide)) ?_); (refine zY.v rfl rfl (zK rfl rfl rfl (by decide)) ?_); refine zY.nil ?_) | (refine zX.isR (id := 9) ?_; refine zX.zV [2, 3, 4, 5, 6, 8, 9, 10, 30, 31, 32, 33, 40, 51] [2, 3, 4, 5, 8, 19, 30, 31, 46, 54] (by repeat' first | exact zZ.nil | apply zZ.p rfl | apply zZ.ptr rfl | apply zZ.skip) (by repeat' first | exact zW.nil | apply zW.boxP rfl rfl | apply zW.skip) ?_; (refine zY.v rfl rfl (zQ rfl rfl rfl (by decide)) ?_); (refine zY.v rfl rfl (zQ rfl rfl rfl (by decide)) ?_); (refine zY.v rfl rfl (xR rfl rfl rfl (by rfl) rfl (by decide)) ?_); refine zY.nil ?_) | (refine zX.isR (id := 10) ?_; refine zX.zV [2, 3, 4, 5, 6, 8, 9, 10, 30, 31, 32, 33, 40, 51] [2, 3, 4, 5, 8, 19, 30, 31, 46, 54] (by repeat' first | exact zZ.nil | apply zZ.p rfl | apply zZ.ptr rfl) (by repeat' first | exact zW.nil | apply zW.boxP rfl rfl | apply zW.skip) ?_; (refine zY.v rfl rfl (zJ rfl rfl rfl (by decide)) ?_); (refine zY.v rfl rfl (zA rfl rfl rfl (by rfl) rfl (by decide)) ?_); (refine zY.m rfl rfl (by exact w_callRowV c1 rfl rfl rfl (by decide)) ?_); (refine zY.v rfl rfl (zJ rfl rfl rfl (by decide)) ?_); (refine zY.w rfl (by exact w_storeO rfl rfl rfl rfl rfl rfl (by exact Nat.le_of_ble_eq_true rfl) rfl rfl) ?_); refine zY.nil ?_) | (refine zX.isR (id := 11) ?_; refine zX.zV [2, 3, 4, 5, 6, 8, 9, 10, 30, 31, 32, 33, 40, 51] [2, 3, 4, 5, 8, 19, 30, 31, 46, 54] (by repeat' first | exact zZ.nil | apply zZ.p rfl | apply zZ.ptr rfl) (by repeat' first | exact zW.nil | apply zW.boxP rfl rfl | apply zW.some rfl | apply zW.skip) ?_; (refine zY.v rfl rfl (zJ rfl rfl rfl (by decide)) ?_); (refine zY.v rfl rfl (w_loadO rfl rfl rfl rfl rfl (by decide)) ?_); (refine zY.v rfl rfl (zJ rfl rfl rfl (by decide)) ?_); (refine zY.v rfl rfl (zA rfl rfl rfl (by rfl) rfl (by decide)) ?_); (refine zY.v rfl rfl (zQ rfl rfl rfl (by decide)) ?_); (refine zY.v rfl rfl (by exact vE rfl rfl rfl rfl (by exact g6) rfl (by decide)) ?_); (refine zY.w rfl (by exact w_storeV rfl rfl rfl rfl rfl (by exact g1) (by rfl) rfl (by exact g7) rfl) ?_); refine zY.nil ?_) | (refine zX.isR (id := 12) ?_; refine zX.sub (sub_frz (id := 54) rfl) ?_; refine zX.zV [2, 3, 4, 5, 6, 8, 9, 10, 30, 31, 32, 33, 40, 51] [2, 3, 4, 5, 8, 19, 30, 31, 46, 54] (by repeat' first | exact zZ.nil | apply zZ.p rfl | apply zZ.ptr rfl) (by repeat' first | exact zW.nil | apply zW.boxP rfl rfl | apply zW.skip) ?_; (refine zY.v rfl rfl (zD rfl rfl rfl (by rfl) (by rfl) rfl (by decide)) ?_); (refine zY.v rfl rfl (zQ rfl rfl rfl (by decide)) ?_); (refine zY.v rfl rfl (zT rfl (by rfl) (by rfl) (by rfl) (by rfl) rfl (by decide)) ?_); (refine zY.w rfl (by exact zB rfl rfl rfl rfl rfl (by rfl) (by exact Nat.le_of_ble_eq_true rfl) rfl rfl) ?_); (refine zY.w rfl (by exact zB rfl rfl rfl rfl rfl (by rfl) (by exact Nat.le_of_ble_eq_true rfl) rfl rfl) ?_); refine zY.nil ?_) | (refine zX.isR (id := 12) ?_; refine zX.zV [2, 3, 4, 5, 6, 8, 9, 10, 30, 31, 32, 33, 40, 51] [2, 3, 4, 5, 8, 19, 30, 31, 46, 54] (by repeat' first | exact zZ.nil | apply zZ.p rfl | apply zZ.ptr rfl) (by repeat' first | exact zW.nil | apply zW.boxP rfl rfl | apply zW.skip) ?_; (refine zY.v rfl rfl (zD rfl rfl rfl (by rfl) (by rfl) rfl (by decide)) ?_); (refine zY.v rfl rfl (zQ rfl rfl rfl (by decide)) ?_); (refine zY.v rfl rfl (zT rfl (by rfl) (by rfl) (by rfl) (by rfl) rfl (by decide)) ?_); (refine zY.w rfl (by exact zB rfl rfl rfl rfl rfl (by rfl) (by exact Nat.le_of_ble_eq_true rfl) rfl rfl) ?_); (refine zY.w rfl (by exact zB rfl rfl rfl rfl rfl (by rfl) (by exact Nat.le_of_ble_eq_true rfl) rfl rfl) ?_); refine zY.nil ?_) | refine zX.yS rfl (by assumption) ?_ | refine zX.yN rfl (by assumption) ?_ | refine zX.cond rfl (fun h => ?_) (fun h => ?_) | refine zX.skip ?_ | refine zX.block ?_ | refine zX.ret ?_) | refine yH.r ?_ | refine wH.r ?_)
        all_goals refine ⟨by first | exact .inl rfl | exact .inr rfl, _, Sub.refl _, .tupE (rs := [.cell 4 27, .cell 5 60]) rfl (by decide) (.cons (.cellN rfl rfl (by rfl) (by rfl)) (.cons (.cellN rfl rfl (by rfl) (by rfl)) .nil)) ?_⟩
        all_goals first
          | exact xG (wds_set ws i _) rfl
          | exact xG (congrArg wds (wP (hi.trans (congrArg some (eq_of_nd h).symm))).symm) rfl
          | exact xG (congrArg wds (wP hi).symm) rfl
    · have gl : decide (((3 : Nat) : Int) < 5) = true := rfl
      by_cases hke : kd = 3
      case neg =>
        have gw : IntKind.i64.wrap (((3 : Nat) : Int) + 1) = ((4 : Nat) : Int) := rfl
        have gd : (!decide ((3 : Int) = kd)) = true := by simp; omega
        repeat' (first | (refine zX.is ?_; first | refine zX.seq ?_ | (refine zX.isR (id := 5) ?_; refine zX.zV [2, 3, 4, 5, 6, 8, 9, 10, 30, 31, 32, 33, 40, 51] [2, 3, 4, 5, 8, 19, 30, 31, 46, 54] (by repeat' first | exact zZ.nil | apply zZ.p rfl | apply zZ.ptr rfl | apply zZ.skip) (by repeat' first | exact zW.nil | apply zW.boxP rfl rfl | apply zW.skip) ?_; (refine zY.v rfl rfl (by exact yI rfl rfl rfl (by exact gl) rfl (by decide)) ?_); refine zY.nil ?_) | (refine zX.isR (id := 6) ?_; refine zX.zV [2, 3, 4, 5, 6, 8, 9, 10, 30, 31, 32, 33, 40, 51] [2, 3, 4, 5, 8, 19, 30, 31, 46, 54] (by repeat' first | exact zZ.nil | apply zZ.p rfl | apply zZ.ptr rfl | apply zZ.skip) (by repeat' first | exact zW.nil | apply zW.boxP rfl rfl | apply zW.skip) ?_; (refine zY.v rfl rfl (by exact yL rfl rfl rfl (by exact g2) (by rfl) rfl (by decide)) ?_); (refine zY.v rfl rfl (by exact wS rfl rfl (by exact Nat.le_of_ble_eq_true rfl) rfl (by decide)) ?_); (refine zY.m rfl rfl (zG rfl (by decide) rfl (by decide)) ?_); (refine zY.w rfl (by exact zB rfl rfl rfl rfl rfl (by rfl) (by exact Nat.le_of_ble_eq_true rfl) rfl rfl) ?_); refine zY.nil ?_) | (refine zX.isR (id := 7) ?_; refine zX.zV [2, 3, 4, 5, 6, 8, 9, 10, 30, 31, 32, 33, 40, 51] [2, 3, 4, 5, 8, 19, 30, 31, 46, 54] (by repeat' first | exact zZ.nil | apply zZ.p rfl | apply zZ.ptr rfl | apply zZ.skip) (by repeat' first | exact zW.nil | apply zW.boxP rfl rfl | apply zW.skip) ?_; (refine zY.v rfl rfl (zJ rfl rfl rfl (by decide)) ?_); (refine zY.v rfl rfl (zA rfl rfl rfl (by rfl) rfl (by decide)) ?_); (refine zY.v rfl rfl (zJ rfl rfl rfl (by decide)) ?_); (refine zY.v rfl rfl (zA rfl rfl rfl (by rfl) rfl (by decide)) ?_); (refine zY.v rfl rfl (by exact xR rfl rfl rfl (by exact gd) rfl (by decide)) ?_); refine zY.nil ?_) | (refine zX.isR (id := 13) ?_; refine zX.zV [2, 3, 4, 5, 6, 8, 9, 10, 30, 31, 32, 33, 40, 51] [2, 3, 4, 5, 8, 19, 30, 31, 46, 54] (by repeat' first | exact zZ.nil | apply zZ.p rfl | apply zZ.ptr rfl | apply zZ.skip) (by repeat' first | exact zW.nil | apply zW.boxP rfl rfl | apply zW.skip) ?_; (refine zY.v rfl rfl (by exact yE rfl rfl rfl (by exact gw) rfl (by decide)) ?_); (refine zY.v rfl rfl (zQ rfl rfl rfl (by decide)) ?_); refine zY.nil ?_) | refine zX.yS rfl (by assumption) ?_ | refine zX.skip ?_ | refine zX.block ?_ | refine zX.exit ?_) | refine yH.n ?_)
        refine ⟨4, ?_, (by omega), by decide⟩
        refine zN (is := [2, 3, 4, 5, 6, 30, 31, 32]) (js := [2, 3, 4, 5]) ?_ ?_
        repeat' first | exact zZ.nil | apply zZ.p rfl | apply zZ.ptr rfl | apply zZ.own rfl | apply zZ.clo rfl | apply zZ.pt rfl | apply zZ.tup rfl | apply zZ.skip
        repeat' first | exact zW.nil | apply zW.boxP rfl rfl | apply zW.yG rfl | apply zW.some rfl | apply zW.skip
      case pos =>
        subst hke
        have gx : ∀ x : Int, (!decide (x = x)) = false := fun x => by simp
        repeat' (first | (refine zX.is ?_; first | refine zX.seq ?_ | (refine zX.isR (id := 5) ?_; refine zX.zV [2, 3, 4, 5, 6, 8, 9, 10, 30, 31, 32, 33, 40, 51] [2, 3, 4, 5, 8, 19, 30, 31, 46, 54] (by repeat' first | exact zZ.nil | apply zZ.p rfl | apply zZ.ptr rfl | apply zZ.skip) (by repeat' first | exact zW.nil | apply zW.boxP rfl rfl | apply zW.skip) ?_; (refine zY.v rfl rfl (by exact yI rfl rfl rfl (by exact gl) rfl (by decide)) ?_); refine zY.nil ?_) | (refine zX.isR (id := 6) ?_; refine zX.zV [2, 3, 4, 5, 6, 8, 9, 10, 30, 31, 32, 33, 40, 51] [2, 3, 4, 5, 8, 19, 30, 31, 46, 54] (by repeat' first | exact zZ.nil | apply zZ.p rfl | apply zZ.ptr rfl | apply zZ.skip) (by repeat' first | exact zW.nil | apply zW.boxP rfl rfl | apply zW.skip) ?_; (refine zY.v rfl rfl (by exact yL rfl rfl rfl (by exact g2) (by rfl) rfl (by decide)) ?_); (refine zY.v rfl rfl (by exact wS rfl rfl (by exact Nat.le_of_ble_eq_true rfl) rfl (by decide)) ?_); (refine zY.m rfl rfl (zG rfl (by decide) rfl (by decide)) ?_); (refine zY.w rfl (by exact zB rfl rfl rfl rfl rfl (by rfl) (by exact Nat.le_of_ble_eq_true rfl) rfl rfl) ?_); refine zY.nil ?_) | (refine zX.isR (id := 7) ?_; refine zX.zV [2, 3, 4, 5, 6, 8, 9, 10, 30, 31, 32, 33, 40, 51] [2, 3, 4, 5, 8, 19, 30, 31, 46, 54] (by repeat' first | exact zZ.nil | apply zZ.p rfl | apply zZ.ptr rfl | apply zZ.skip) (by repeat' first | exact zW.nil | apply zW.boxP rfl rfl | apply zW.skip) ?_; (refine zY.v rfl rfl (zJ rfl rfl rfl (by decide)) ?_); (refine zY.v rfl rfl (zA rfl rfl rfl (by rfl) rfl (by decide)) ?_); (refine zY.v rfl rfl (zJ rfl rfl rfl (by decide)) ?_); (refine zY.v rfl rfl (zA rfl rfl rfl (by rfl) rfl (by decide)) ?_); (refine zY.v rfl rfl (by exact xR rfl rfl rfl (by exact gx _) rfl (by decide)) ?_); refine zY.nil ?_) | (refine zX.isR (id := 8) ?_; refine zX.zV [2, 3, 4, 5, 6, 8, 9, 10, 30, 31, 32, 33, 40, 51] [2, 3, 4, 5, 8, 19, 30, 31, 46, 54] (by repeat' first | exact zZ.nil | apply zZ.p rfl | apply zZ.ptr rfl | apply zZ.skip) (by repeat' first | exact zW.nil | apply zW.boxP rfl rfl | apply zW.skip) ?_; (refine zY.v rfl rfl (zJ rfl rfl rfl (by decide)) ?_); (refine zY.v rfl rfl (zA rfl rfl rfl (by rfl) rfl (by decide)) ?_); (refine zY.v rfl rfl (zQ rfl rfl rfl (by decide)) ?_); (refine zY.v rfl rfl (zD rfl rfl rfl (by rfl) (by rfl) rfl (by decide)) ?_); (refine zY.ofT rfl (zI.wL [] (FnE.ofFnT (turn4_fn old 3 i a b d y8)) rfl (by decide) (vI rfl rfl) (by rfl) (zS (by decide) rfl (by repeat' exact trivial)) rfl rfl rfl rfl ?_)); (refine zY.v rfl rfl (yD rfl rfl rfl (by decide)) ?_); (refine zY.v rfl rfl (zF rfl rfl rfl rfl (by decide)) ?_); (refine zY.v rfl rfl (zF rfl rfl rfl rfl (by decide)) ?_); (refine zY.v rfl rfl (zK rfl rfl rfl (by decide)) ?_); (refine zY.v rfl rfl (zK rfl rfl rfl (by decide)) ?_); refine zY.nil ?_) | (refine zX.isR (id := 9) ?_; refine zX.zV [2, 3, 4, 5, 6, 8, 9, 10, 30, 31, 32, 33, 40, 51] [2, 3, 4, 5, 8, 19, 30, 31, 46, 54] (by repeat' first | exact zZ.nil | apply zZ.p rfl | apply zZ.ptr rfl | apply zZ.skip) (by repeat' first | exact zW.nil | apply zW.boxP rfl rfl | apply zW.skip) ?_; (refine zY.v rfl rfl (zQ rfl rfl rfl (by decide)) ?_); (refine zY.v rfl rfl (zQ rfl rfl rfl (by decide)) ?_); (refine zY.v rfl rfl (xR rfl rfl rfl (by rfl) rfl (by decide)) ?_); refine zY.nil ?_) | (refine zX.isR (id := 10) ?_; refine zX.zV [2, 3, 4, 5, 6, 8, 9, 10, 30, 31, 32, 33, 40, 51] [2, 3, 4, 5, 8, 19, 30, 31, 46, 54] (by repeat' first | exact zZ.nil | apply zZ.p rfl | apply zZ.ptr rfl) (by repeat' first | exact zW.nil | apply zW.boxP rfl rfl | apply zW.skip) ?_; (refine zY.v rfl rfl (zJ rfl rfl rfl (by decide)) ?_); (refine zY.v rfl rfl (zA rfl rfl rfl (by rfl) rfl (by decide)) ?_); (refine zY.m rfl rfl (by exact w_callRowV c1 rfl rfl rfl (by decide)) ?_); (refine zY.v rfl rfl (zJ rfl rfl rfl (by decide)) ?_); (refine zY.w rfl (by exact w_storeO rfl rfl rfl rfl rfl rfl (by exact Nat.le_of_ble_eq_true rfl) rfl rfl) ?_); refine zY.nil ?_) | (refine zX.isR (id := 11) ?_; refine zX.zV [2, 3, 4, 5, 6, 8, 9, 10, 30, 31, 32, 33, 40, 51] [2, 3, 4, 5, 8, 19, 30, 31, 46, 54] (by repeat' first | exact zZ.nil | apply zZ.p rfl | apply zZ.ptr rfl) (by repeat' first | exact zW.nil | apply zW.boxP rfl rfl | apply zW.some rfl | apply zW.skip) ?_; (refine zY.v rfl rfl (zJ rfl rfl rfl (by decide)) ?_); (refine zY.v rfl rfl (w_loadO rfl rfl rfl rfl rfl (by decide)) ?_); (refine zY.v rfl rfl (zJ rfl rfl rfl (by decide)) ?_); (refine zY.v rfl rfl (zA rfl rfl rfl (by rfl) rfl (by decide)) ?_); (refine zY.v rfl rfl (zQ rfl rfl rfl (by decide)) ?_); (refine zY.v rfl rfl (by exact vE rfl rfl rfl rfl (by exact g6) rfl (by decide)) ?_); (refine zY.w rfl (by exact w_storeV rfl rfl rfl rfl rfl (by exact g1) (by rfl) rfl (by exact g7) rfl) ?_); refine zY.nil ?_) | (refine zX.isR (id := 12) ?_; refine zX.sub (sub_frz (id := 54) rfl) ?_; refine zX.zV [2, 3, 4, 5, 6, 8, 9, 10, 30, 31, 32, 33, 40, 51] [2, 3, 4, 5, 8, 19, 30, 31, 46, 54] (by repeat' first | exact zZ.nil | apply zZ.p rfl | apply zZ.ptr rfl) (by repeat' first | exact zW.nil | apply zW.boxP rfl rfl | apply zW.skip) ?_; (refine zY.v rfl rfl (zD rfl rfl rfl (by rfl) (by rfl) rfl (by decide)) ?_); (refine zY.v rfl rfl (zQ rfl rfl rfl (by decide)) ?_); (refine zY.v rfl rfl (zT rfl (by rfl) (by rfl) (by rfl) (by rfl) rfl (by decide)) ?_); (refine zY.w rfl (by exact zB rfl rfl rfl rfl rfl (by rfl) (by exact Nat.le_of_ble_eq_true rfl) rfl rfl) ?_); (refine zY.w rfl (by exact zB rfl rfl rfl rfl rfl (by rfl) (by exact Nat.le_of_ble_eq_true rfl) rfl rfl) ?_); refine zY.nil ?_) | (refine zX.isR (id := 12) ?_; refine zX.zV [2, 3, 4, 5, 6, 8, 9, 10, 30, 31, 32, 33, 40, 51] [2, 3, 4, 5, 8, 19, 30, 31, 46, 54] (by repeat' first | exact zZ.nil | apply zZ.p rfl | apply zZ.ptr rfl) (by repeat' first | exact zW.nil | apply zW.boxP rfl rfl | apply zW.skip) ?_; (refine zY.v rfl rfl (zD rfl rfl rfl (by rfl) (by rfl) rfl (by decide)) ?_); (refine zY.v rfl rfl (zQ rfl rfl rfl (by decide)) ?_); (refine zY.v rfl rfl (zT rfl (by rfl) (by rfl) (by rfl) (by rfl) rfl (by decide)) ?_); (refine zY.w rfl (by exact zB rfl rfl rfl rfl rfl (by rfl) (by exact Nat.le_of_ble_eq_true rfl) rfl rfl) ?_); (refine zY.w rfl (by exact zB rfl rfl rfl rfl rfl (by rfl) (by exact Nat.le_of_ble_eq_true rfl) rfl rfl) ?_); refine zY.nil ?_) | refine zX.yS rfl (by assumption) ?_ | refine zX.yN rfl (by assumption) ?_ | refine zX.cond rfl (fun h => ?_) (fun h => ?_) | refine zX.skip ?_ | refine zX.block ?_ | refine zX.ret ?_) | refine yH.r ?_ | refine wH.r ?_)
        all_goals refine ⟨by first | exact .inl rfl | exact .inr rfl, _, Sub.refl _, .tupE (rs := [.cell 4 27, .cell 5 60]) rfl (by decide) (.cons (.cellN rfl rfl (by rfl) (by rfl)) (.cons (.cellN rfl rfl (by rfl) (by rfl)) .nil)) ?_⟩
        all_goals first
          | exact xG (wds_set ws i _) rfl
          | exact xG (congrArg wds (wP (hi.trans (congrArg some (eq_of_nd h).symm))).symm) rfl
          | exact xG (congrArg wds (wP hi).symm) rfl
    · have gl : decide (((4 : Nat) : Int) < 5) = true := rfl
      obtain rfl : kd = 4 := by omega
      have gx : ∀ x : Int, (!decide (x = x)) = false := fun x => by simp
      repeat' (first | (refine zX.is ?_; first | refine zX.seq ?_ | (refine zX.isR (id := 5) ?_; refine zX.zV [2, 3, 4, 5, 6, 8, 9, 10, 30, 31, 32, 33, 40, 51] [2, 3, 4, 5, 8, 19, 30, 31, 46, 54] (by repeat' first | exact zZ.nil | apply zZ.p rfl | apply zZ.ptr rfl | apply zZ.skip) (by repeat' first | exact zW.nil | apply zW.boxP rfl rfl | apply zW.skip) ?_; (refine zY.v rfl rfl (by exact yI rfl rfl rfl (by exact gl) rfl (by decide)) ?_); refine zY.nil ?_) | (refine zX.isR (id := 6) ?_; refine zX.zV [2, 3, 4, 5, 6, 8, 9, 10, 30, 31, 32, 33, 40, 51] [2, 3, 4, 5, 8, 19, 30, 31, 46, 54] (by repeat' first | exact zZ.nil | apply zZ.p rfl | apply zZ.ptr rfl | apply zZ.skip) (by repeat' first | exact zW.nil | apply zW.boxP rfl rfl | apply zW.skip) ?_; (refine zY.v rfl rfl (by exact yL rfl rfl rfl (by exact g2) (by rfl) rfl (by decide)) ?_); (refine zY.v rfl rfl (by exact wS rfl rfl (by exact Nat.le_of_ble_eq_true rfl) rfl (by decide)) ?_); (refine zY.m rfl rfl (zG rfl (by decide) rfl (by decide)) ?_); (refine zY.w rfl (by exact zB rfl rfl rfl rfl rfl (by rfl) (by exact Nat.le_of_ble_eq_true rfl) rfl rfl) ?_); refine zY.nil ?_) | (refine zX.isR (id := 7) ?_; refine zX.zV [2, 3, 4, 5, 6, 8, 9, 10, 30, 31, 32, 33, 40, 51] [2, 3, 4, 5, 8, 19, 30, 31, 46, 54] (by repeat' first | exact zZ.nil | apply zZ.p rfl | apply zZ.ptr rfl | apply zZ.skip) (by repeat' first | exact zW.nil | apply zW.boxP rfl rfl | apply zW.skip) ?_; (refine zY.v rfl rfl (zJ rfl rfl rfl (by decide)) ?_); (refine zY.v rfl rfl (zA rfl rfl rfl (by rfl) rfl (by decide)) ?_); (refine zY.v rfl rfl (zJ rfl rfl rfl (by decide)) ?_); (refine zY.v rfl rfl (zA rfl rfl rfl (by rfl) rfl (by decide)) ?_); (refine zY.v rfl rfl (by exact xR rfl rfl rfl (by exact gx _) rfl (by decide)) ?_); refine zY.nil ?_) | (refine zX.isR (id := 8) ?_; refine zX.zV [2, 3, 4, 5, 6, 8, 9, 10, 30, 31, 32, 33, 40, 51] [2, 3, 4, 5, 8, 19, 30, 31, 46, 54] (by repeat' first | exact zZ.nil | apply zZ.p rfl | apply zZ.ptr rfl | apply zZ.skip) (by repeat' first | exact zW.nil | apply zW.boxP rfl rfl | apply zW.skip) ?_; (refine zY.v rfl rfl (zJ rfl rfl rfl (by decide)) ?_); (refine zY.v rfl rfl (zA rfl rfl rfl (by rfl) rfl (by decide)) ?_); (refine zY.v rfl rfl (zQ rfl rfl rfl (by decide)) ?_); (refine zY.v rfl rfl (zD rfl rfl rfl (by rfl) (by rfl) rfl (by decide)) ?_); (refine zY.ofT rfl (zI.wL [] (FnE.ofFnT (turn5_fn old 4 i a b d y8)) rfl (by decide) (vI rfl rfl) (by rfl) (zS (by decide) rfl (by repeat' exact trivial)) rfl rfl rfl rfl ?_)); (refine zY.v rfl rfl (yD rfl rfl rfl (by decide)) ?_); (refine zY.v rfl rfl (zF rfl rfl rfl rfl (by decide)) ?_); (refine zY.v rfl rfl (zF rfl rfl rfl rfl (by decide)) ?_); (refine zY.v rfl rfl (zK rfl rfl rfl (by decide)) ?_); (refine zY.v rfl rfl (zK rfl rfl rfl (by decide)) ?_); refine zY.nil ?_) | (refine zX.isR (id := 9) ?_; refine zX.zV [2, 3, 4, 5, 6, 8, 9, 10, 30, 31, 32, 33, 40, 51] [2, 3, 4, 5, 8, 19, 30, 31, 46, 54] (by repeat' first | exact zZ.nil | apply zZ.p rfl | apply zZ.ptr rfl | apply zZ.skip) (by repeat' first | exact zW.nil | apply zW.boxP rfl rfl | apply zW.skip) ?_; (refine zY.v rfl rfl (zQ rfl rfl rfl (by decide)) ?_); (refine zY.v rfl rfl (zQ rfl rfl rfl (by decide)) ?_); (refine zY.v rfl rfl (xR rfl rfl rfl (by rfl) rfl (by decide)) ?_); refine zY.nil ?_) | (refine zX.isR (id := 10) ?_; refine zX.zV [2, 3, 4, 5, 6, 8, 9, 10, 30, 31, 32, 33, 40, 51] [2, 3, 4, 5, 8, 19, 30, 31, 46, 54] (by repeat' first | exact zZ.nil | apply zZ.p rfl | apply zZ.ptr rfl) (by repeat' first | exact zW.nil | apply zW.boxP rfl rfl | apply zW.skip) ?_; (refine zY.v rfl rfl (zJ rfl rfl rfl (by decide)) ?_); (refine zY.v rfl rfl (zA rfl rfl rfl (by rfl) rfl (by decide)) ?_); (refine zY.m rfl rfl (by exact w_callRowV c1 rfl rfl rfl (by decide)) ?_); (refine zY.v rfl rfl (zJ rfl rfl rfl (by decide)) ?_); (refine zY.w rfl (by exact w_storeO rfl rfl rfl rfl rfl rfl (by exact Nat.le_of_ble_eq_true rfl) rfl rfl) ?_); refine zY.nil ?_) | (refine zX.isR (id := 11) ?_; refine zX.zV [2, 3, 4, 5, 6, 8, 9, 10, 30, 31, 32, 33, 40, 51] [2, 3, 4, 5, 8, 19, 30, 31, 46, 54] (by repeat' first | exact zZ.nil | apply zZ.p rfl | apply zZ.ptr rfl) (by repeat' first | exact zW.nil | apply zW.boxP rfl rfl | apply zW.some rfl | apply zW.skip) ?_; (refine zY.v rfl rfl (zJ rfl rfl rfl (by decide)) ?_); (refine zY.v rfl rfl (w_loadO rfl rfl rfl rfl rfl (by decide)) ?_); (refine zY.v rfl rfl (zJ rfl rfl rfl (by decide)) ?_); (refine zY.v rfl rfl (zA rfl rfl rfl (by rfl) rfl (by decide)) ?_); (refine zY.v rfl rfl (zQ rfl rfl rfl (by decide)) ?_); (refine zY.v rfl rfl (by exact vE rfl rfl rfl rfl (by exact g6) rfl (by decide)) ?_); (refine zY.w rfl (by exact w_storeV rfl rfl rfl rfl rfl (by exact g1) (by rfl) rfl (by exact g7) rfl) ?_); refine zY.nil ?_) | (refine zX.isR (id := 12) ?_; refine zX.sub (sub_frz (id := 54) rfl) ?_; refine zX.zV [2, 3, 4, 5, 6, 8, 9, 10, 30, 31, 32, 33, 40, 51] [2, 3, 4, 5, 8, 19, 30, 31, 46, 54] (by repeat' first | exact zZ.nil | apply zZ.p rfl | apply zZ.ptr rfl) (by repeat' first | exact zW.nil | apply zW.boxP rfl rfl | apply zW.skip) ?_; (refine zY.v rfl rfl (zD rfl rfl rfl (by rfl) (by rfl) rfl (by decide)) ?_); (refine zY.v rfl rfl (zQ rfl rfl rfl (by decide)) ?_); (refine zY.v rfl rfl (zT rfl (by rfl) (by rfl) (by rfl) (by rfl) rfl (by decide)) ?_); (refine zY.w rfl (by exact zB rfl rfl rfl rfl rfl (by rfl) (by exact Nat.le_of_ble_eq_true rfl) rfl rfl) ?_); (refine zY.w rfl (by exact zB rfl rfl rfl rfl rfl (by rfl) (by exact Nat.le_of_ble_eq_true rfl) rfl rfl) ?_); refine zY.nil ?_) | (refine zX.isR (id := 12) ?_; refine zX.zV [2, 3, 4, 5, 6, 8, 9, 10, 30, 31, 32, 33, 40, 51] [2, 3, 4, 5, 8, 19, 30, 31, 46, 54] (by repeat' first | exact zZ.nil | apply zZ.p rfl | apply zZ.ptr rfl) (by repeat' first | exact zW.nil | apply zW.boxP rfl rfl | apply zW.skip) ?_; (refine zY.v rfl rfl (zD rfl rfl rfl (by rfl) (by rfl) rfl (by decide)) ?_); (refine zY.v rfl rfl (zQ rfl rfl rfl (by decide)) ?_); (refine zY.v rfl rfl (zT rfl (by rfl) (by rfl) (by rfl) (by rfl) rfl (by decide)) ?_); (refine zY.w rfl (by exact zB rfl rfl rfl rfl rfl (by rfl) (by exact Nat.le_of_ble_eq_true rfl) rfl rfl) ?_); (refine zY.w rfl (by exact zB rfl rfl rfl rfl rfl (by rfl) (by exact Nat.le_of_ble_eq_true rfl) rfl rfl) ?_); refine zY.nil ?_) | refine zX.yS rfl (by assumption) ?_ | refine zX.yN rfl (by assumption) ?_ | refine zX.cond rfl (fun h => ?_) (fun h => ?_) | refine zX.skip ?_ | refine zX.block ?_ | refine zX.ret ?_) | refine yH.r ?_ | refine wH.r ?_)
      all_goals refine ⟨by first | exact .inl rfl | exact .inr rfl, _, Sub.refl _, .tupE (rs := [.cell 4 27, .cell 5 60]) rfl (by decide) (.cons (.cellN rfl rfl (by rfl) (by rfl)) (.cons (.cellN rfl rfl (by rfl) (by rfl)) .nil)) ?_⟩
      all_goals first
        | exact xG (wds_set ws i _) rfl
        | exact xG (congrArg wds (wP (hi.trans (congrArg some (eq_of_nd h).symm))).symm) rfl
        | exact xG (congrArg wds (wP hi).symm) rfl
theorem wordsOut_fn (t c kd cell a b : Int) (ws : List Int) (d : PV) (hi : cell < 0 ∨ (ws.length : Int) ≤ cell) :
    Fn Tryd.prog 41 [memV t c ws, accV kd cell a b d] (.tup [memV t c ws, resN 0]) := by
  by_cases hn : cell < 0
  case pos =>
    have g4 : decide (cell < 0) = true := decide_eq_true hn
    refine yM Tryd.func41 rfl Tryd.ntmps41 (Nat.le_of_ble_eq_true rfl) ?_
    repeat' (first | (refine zX.is ?_; first | refine zX.seq ?_ | (refine zX.isR (id := 0) ?_; refine zX.zV [0, 1] [2, 3, 4, 5, 8, 19, 30, 31, 46, 54] (by repeat' first | exact zZ.nil | apply zZ.p rfl) (by repeat' first | exact zW.nil | apply zW.skip) ?_; (refine zY.m rfl rfl (yX rfl rfl rfl (by decide)) ?_); (refine zY.m rfl rfl (yX rfl rfl rfl (by decide)) ?_); (refine zY.m rfl rfl (zG rfl (by decide) rfl (by decide)) ?_); (refine zY.m rfl rfl (zG rfl (by decide) rfl (by decide)) ?_); refine zY.nil ?_) | (refine zX.isR (id := 1) ?_; refine zX.zV [2, 3, 4, 5] [2, 3, 4, 5, 8, 19, 30, 31, 46, 54] (by repeat' first | exact zZ.nil | apply zZ.ptr rfl) (by repeat' first | exact zW.nil | apply zW.boxP rfl rfl | apply zW.skip) ?_; all_goals (refine zY.v rfl rfl (zJ rfl rfl rfl (by decide)) ?_); all_goals (refine zY.v rfl rfl (zA rfl rfl rfl (by rfl) rfl (by decide)) ?_); all_goals (refine zY.v rfl rfl (by exact yI rfl rfl rfl (by exact g4) rfl (by decide)) ?_); all_goals (refine zY.v rfl rfl (zQ rfl rfl rfl (by decide)) ?_); all_goals (refine zY.gnF rfl rfl (by decide) rfl (by with_reducible rfl) rfl (by decide) ?_); all_goals (refine zY.gnF rfl rfl (by decide) rfl (by with_reducible rfl) rfl (by decide) ?_); all_goals (refine zY.gnF rfl rfl (by decide) rfl (by with_reducible rfl) rfl (by decide) ?_); all_goals (refine zY.gnF rfl rfl (by decide) rfl (by with_reducible rfl) rfl (by decide) ?_); all_goals (refine zY.gnF rfl rfl (by decide) rfl (by with_reducible rfl) rfl (by decide) ?_); all_goals (refine zY.gnF rfl rfl (by decide) rfl (by with_reducible rfl) rfl (by decide) ?_); all_goals (refine zY.v rfl rfl (by exact yZ rfl rfl (by with_reducible rfl) rfl rfl (by decide)) ?_); all_goals (refine zY.nil ?_)) | (refine zX.isR (id := 2) ?_; refine zX.zV [2, 3, 4, 5] [2, 3, 4, 5, 8, 19, 30, 31, 46, 54] (by repeat' first | exact zZ.nil | apply zZ.ptr rfl) (by repeat' first | exact zW.nil | apply zW.boxP rfl rfl | apply zW.skip) ?_; (refine zY.v rfl rfl (zD rfl rfl rfl (by rfl) (by rfl) rfl (by decide)) ?_); (refine zY.v rfl rfl (zT rfl (by rfl) (by rfl) (by rfl) (by rfl) rfl (by decide)) ?_); (refine zY.w rfl (by exact zB rfl rfl rfl rfl rfl (by rfl) (by exact Nat.le_of_ble_eq_true rfl) rfl rfl) ?_); (refine zY.w rfl (by exact zB rfl rfl rfl rfl rfl (by rfl) (by exact Nat.le_of_ble_eq_true rfl) rfl rfl) ?_); refine zY.nil ?_) | refine zX.yS rfl (by first | assumption | with_reducible rfl) ?_ | refine zX.ret ?_) | refine yH.r ?_)
    all_goals exact ⟨by first | exact .inl rfl | exact .inr rfl, _, Sub.refl _, .tupE (rs := [.cell 4 27, .cell 5 60]) rfl (by decide) (.cons (.cellN rfl rfl (by rfl) (by rfl)) (.cons (.cellN rfl rfl (by rfl) (by rfl)) .nil)) rfl⟩
  case neg =>
    have g4 : decide (cell < 0) = false := decide_eq_false hn
    have g5 : decide (((wds ws).length : Int) ≤ cell) = true := decide_eq_true (by rw [wds_len]; omega)
    refine yM Tryd.func41 rfl Tryd.ntmps41 (Nat.le_of_ble_eq_true rfl) ?_
    repeat' (first | (refine zX.is ?_; first | refine zX.seq ?_ | (refine zX.isR (id := 0) ?_; refine zX.zV [0, 1] [2, 3, 4, 5, 8, 19, 30, 31, 46, 54] (by repeat' first | exact zZ.nil | apply zZ.p rfl) (by repeat' first | exact zW.nil | apply zW.skip) ?_; (refine zY.m rfl rfl (yX rfl rfl rfl (by decide)) ?_); (refine zY.m rfl rfl (yX rfl rfl rfl (by decide)) ?_); (refine zY.m rfl rfl (zG rfl (by decide) rfl (by decide)) ?_); (refine zY.m rfl rfl (zG rfl (by decide) rfl (by decide)) ?_); refine zY.nil ?_) | (refine zX.isR (id := 1) ?_; refine zX.zV [2, 3, 4, 5] [2, 3, 4, 5, 8, 19, 30, 31, 46, 54] (by repeat' first | exact zZ.nil | apply zZ.ptr rfl) (by repeat' first | exact zW.nil | apply zW.boxP rfl rfl | apply zW.skip) ?_; all_goals (refine zY.v rfl rfl (zJ rfl rfl rfl (by decide)) ?_); all_goals (refine zY.v rfl rfl (zA rfl rfl rfl (by rfl) rfl (by decide)) ?_); all_goals (refine zY.v rfl rfl (by exact yI rfl rfl rfl (by exact g4) rfl (by decide)) ?_); all_goals (refine zY.v rfl rfl (zQ rfl rfl rfl (by decide)) ?_); all_goals (refine zY.gY rfl rfl (by decide) rfl (by with_reducible rfl) rfl (by decide) (zJ rfl rfl rfl (by decide)) ?_); all_goals (refine zY.gY rfl rfl (by decide) rfl (by with_reducible rfl) rfl (by decide) (zA rfl rfl rfl (by rfl) rfl (by decide)) ?_); all_goals (refine zY.gY rfl rfl (by decide) rfl (by with_reducible rfl) rfl (by decide) (zJ rfl rfl rfl (by decide)) ?_); all_goals (refine zY.gY rfl rfl (by decide) rfl (by with_reducible rfl) rfl (by decide) (zA rfl rfl rfl (by rfl) rfl (by decide)) ?_); all_goals (refine zY.gY rfl rfl (by decide) rfl (by with_reducible rfl) rfl (by decide) (wC rfl rfl rfl (by decide)) ?_); all_goals (refine zY.gY rfl rfl (by decide) rfl (by with_reducible rfl) rfl (by decide) (by exact r_geq rfl rfl rfl (by exact g5) rfl (by decide)) ?_); all_goals (refine zY.v rfl rfl (by exact yC rfl rfl (by with_reducible rfl) rfl rfl (by decide)) ?_); all_goals (refine zY.nil ?_)) | (refine zX.isR (id := 2) ?_; refine zX.zV [2, 3, 4, 5] [2, 3, 4, 5, 8, 19, 30, 31, 46, 54] (by repeat' first | exact zZ.nil | apply zZ.ptr rfl) (by repeat' first | exact zW.nil | apply zW.boxP rfl rfl | apply zW.skip) ?_; (refine zY.v rfl rfl (zD rfl rfl rfl (by rfl) (by rfl) rfl (by decide)) ?_); (refine zY.v rfl rfl (zT rfl (by rfl) (by rfl) (by rfl) (by rfl) rfl (by decide)) ?_); (refine zY.w rfl (by exact zB rfl rfl rfl rfl rfl (by rfl) (by exact Nat.le_of_ble_eq_true rfl) rfl rfl) ?_); (refine zY.w rfl (by exact zB rfl rfl rfl rfl rfl (by rfl) (by exact Nat.le_of_ble_eq_true rfl) rfl rfl) ?_); refine zY.nil ?_) | refine zX.yS rfl (by first | assumption | with_reducible rfl) ?_ | refine zX.ret ?_) | refine yH.r ?_)
    all_goals exact ⟨by first | exact .inl rfl | exact .inr rfl, _, Sub.refl _, .tupE (rs := [.cell 4 27, .cell 5 60]) rfl (by decide) (.cons (.cellN rfl rfl (by rfl) (by rfl)) (.cons (.cellN rfl rfl (by rfl) (by rfl)) .nil)) rfl⟩
end Go.Proofs.YthnmfmdkdngggaaDoor
/- Appending to a slice cut to its length: s[:n:n]. Generic over the program. -/
namespace Go.Proofs.YthnmfmdkdngggaaDoor
set_option maxRecDepth 100000
set_option maxHeartbeats 16000000
open Go Go.RowKit
set_option linter.unusedSimpArgs false
theorem RepL.append {M : Nat → Nat → Prop} {w : World} {xs xs' : List PV} {ys ys' : List Value} (h : RepL M w xs ys) (h' : RepL M w xs' ys') : RepL M w (xs ++ xs') (ys ++ ys') :=
  ⟨by rw [List.length_append, List.length_append, h.len, h'.len], fun i c v h1 h2 => by
    by_cases hi : i < xs.length
    · rw [List.getElem?_append_left hi] at h1
      rw [List.getElem?_append_left (by rw [h.len]; exact hi)] at h2
      exact h.each i c v h1 h2
    · rw [List.getElem?_append_right (by omega)] at h1
      rw [List.getElem?_append_right (by rw [h.len]; omega), h.len] at h2
      exact h'.each _ c v h1 h2, fun v hv => by
    rcases List.mem_append.1 hv with hv | hv
    · exact h.one v hv
    · exact h'.one v hv⟩
theorem cellsA_pure {M : Nat → Nat → Prop} {ρ : Nat → Value} {w : World} {xs : List PV} {ys : List Value} (h : yA M ρ w (xs.map AV.p) ys) : RepL M w xs ys :=
  ⟨by simpa using h.len, fun i c v h1 h2 => rep_p (h.each i (.p c) v (by rw [List.getElem?_map, h1]; rfl) h2), h.one⟩
theorem rep_ownsRow {M : Nat → Nat → Prop} {w w' : World} {e sz : Nat} {v : Value} {k : Nat} {es : List PV} {us : List Value} (hM : ∀ k c, M k c → k < w.heap.size) (h : w'.ownsRow w.heap.size e sz v k us) (hk : k = es.length) (hu : RepL M w' (flat es) us) : Rep M w' (.sl es) v := by
  rcases h.2 with ⟨rfl, h0⟩ | ⟨g, cap, cur, rfl, hg, hh, hkc, hcm, hcs, htk⟩
  · have : es = [] := List.eq_nil_of_length_eq_zero (by omega)
    subst this
    exact .nil
  · refine .sl es g 0 k cap us hk hu.len (fun j y hy => ?_) hu.each hu.one (fun j hj hm => ?_) (Array.getElem?_eq_some_iff.1 hh).1 hkc hcm
    · rw [Nat.zero_add, cell_of_row w' g j cur e (0, 0) hh]
      rw [← htk, List.getElem?_take] at hy
      split at hy
      · simpa using hy
      · cases hy
    · have := hM _ _ hm
      omega
section
variable {P : Program} {n : Nat} {ops : Array Oper} {S : AS} {K : Exit → AS → Prop}
theorem zY.appTight {o1 o2 o3 : Oper} {rest : List Oper} {d1 d2 d3 t e sz by_ : Nat} {x y xh xm : Operand} {z : Value} {es bs : List PV} {k2 k3 : IntKind} {h m : Int} {agg : Bool} [ht : Und P t (.slice e)] [hi : InfoA P e z sz by_] [he : TyA P e agg sz]
    (h1 : o1.op = .slice t x none (some xh) (some xm)) (g1 : o1.guard = none) (e1 : o1.dst = some d1)
    (h2 : o2.op = .move y) (g2 : o2.guard = none) (e2 : o2.dst = some d2)
    (h3 : o3.op = .call { callee := .builtin .append, args := #[.tmp d1, .tmp d2], argTypes := #[t, t] }) (g3 : o3.guard = none) (e3 : o3.dst = some d3)
    (hx : S.get x = .p (.sl es)) (hh : S.get xh = .p (.val (.int k2 h))) (hm : S.get xm = .p (.val (.int k3 m))) (hhe : h = es.length) (hme : m = es.length) (hy : S.get y = .p (.sl bs)) (hne : d2 ≠ d1) (hyd : (S.put d1 .any).get y = .p (.sl bs))
    (hn1 : d1 < n) (hn2 : d2 < n) (hn3 : d3 < n) (hes : ∀ e ∈ es, e.cells.length = sz) (hbs : ∀ e ∈ bs, e.cells.length = sz)
    (hlim : (es.length + bs.length) * by_ ≤ 140737488355328 ∧ es.length + bs.length ≤ maxLen) (hzs : z.cells.size = sz) (hsz : 0 < sz)
    (hr : zY P n ops rest (((S.put d1 .any).put d2 (.p (.sl bs))).put d3 (.p (.sl (es ++ bs)))) K) : zY P n ops (o1 :: o2 :: o3 :: rest) S K := by
  subst hhe hme
  intro M w0 ρ a w Q hs hK
  obtain ⟨i, hi1, hi2⟩ := Option.map_eq_some_iff.1 hi.h
  simp only [Prod.mk.injEq] at hi2
  obtain ⟨hz, hisz, hiby⟩ := hi2
  have hel : P.elem t = e := by simp [Program.elem, ht.h]
  have ht2 : P.underlying t = some (.slice (P.elem t)) := by rw [hel]; exact ht.h
  have r1 := yR hs hx
  have r2 := hs.val hh
  have r3 := hs.val hm
  -- the slice cut to its length
  have key : ∃ v1, (execOp a.eval o1).run P w = .ok (.value v1) w ∧ ((v1 = .slice none 0 0 ∧ es = []) ∨ ∃ g off ys, v1 = .slice (some ⟨g, off, none⟩) es.length es.length ∧ RepL (Mut M S ρ) w (flat es) ys ∧ (∀ v ∈ ys, v.oneCell' = true) ∧ (∀ (j : Nat) y, ys[j]? = some y → w.cell? ⟨g, off + j, none⟩ = some y) ∧ (∀ j, j < ys.length → ¬ Mut M S ρ g (off + j)) ∧ g < w.heap.size ∧ es.length ≤ maxLen) := by
    rcases rep_sl r1 with ⟨hv, h0⟩ | ⟨g, off, cap, ys, hv, hly, hcell, hM, hgl, hcap, hmx⟩
    · subst h0
      refine ⟨.slice none 0 0, ?_, .inl ⟨rfl, rfl⟩⟩
      unfold execOp
      rw [h1]
      simp only [Option.map_some, Option.map_none, hv, r2, r3, Sem.run_bind, run_sliceAt_slice w t _ _ _ _ ht2, run_slice_hm w t none 0 0 ht2 _ _ (([] : List PV).length : Int) (([] : List PV).length : Int) (by simp) (by simp) (by simp)]
      rw [hel, he.sz w]
      rfl
    · refine ⟨.slice (some ⟨g, off, none⟩) es.length es.length, ?_, .inr ⟨g, off, ys, rfl, hly, hly.one, hcell, hM, hgl, by omega⟩⟩
      unfold execOp
      rw [h1]
      simp only [Option.map_some, Option.map_none, hv, r2, r3, Sem.run_bind, run_sliceAt_slice w t _ _ _ _ ht2, run_slice_hm w t (some ⟨g, off, none⟩) es.length cap ht2 _ _ (es.length : Int) (es.length : Int) (by omega) (by omega) (by omega)]
      rw [hel, he.sz w]
      simp [sliced, Result.andThen, Addr.add]
  obtain ⟨v1, hr1, hv1⟩ := key
  unfold wpList
  rw [if_pos (by simp [Region.wanted, g1])]
  refine .inl ?_
  unfold Oper.wp
  rw [hr1]
  show wpList P ops Q (o2 :: o3 :: rest) (a.put o1.dst v1) w
  rw [e1]
  have hs1 : Sat M n w0 (S.put d1 .any) ρ (a.put (some d1) v1) w := hs.put hn1 (.any v1)
  have ry := yR hs1 hyd
  unfold wpList
  rw [if_pos (by simp [Region.wanted, g2])]
  refine .inl ?_
  unfold Oper.wp
  have hr2 : (execOp (a.put (some d1) v1).eval o2).run P w = .ok (.value ((a.put (some d1) v1).eval y)) w := by
    unfold execOp
    rw [h2]
    rfl
  rw [hr2]
  show wpList P ops Q (o3 :: rest) ((a.put (some d1) v1).put o2.dst _) w
  rw [e2]
  generalize hvy : (a.put (some d1) v1).eval y = vy at ry ⊢
  have hs2 := hs1.put (d := d2) hn2 (.p ry)
  have t1 : ((a.put (some d1) v1).put (some d2) vy).eval (.tmp d1) = v1 := by
    have : d1 < a.tmps.size := by rw [hs.size]; exact hn1
    simp [Act.eval, Act.put, Array.getD_eq_getD_getElem?, Array.getElem?_setIfInBounds, hne, this]
  have t2 : ((a.put (some d1) v1).put (some d2) vy).eval (.tmp d2) = vy := by
    have : d2 < a.tmps.size := by rw [hs.size]; exact hn2
    simp [Act.eval, Act.put, Array.getD_eq_getD_getElem?, Array.getElem?_setIfInBounds, this]
  obtain ⟨us, hus, hnews⟩ := news_p (ρ := ρ) ry hbs
  have hMut : Mut M ((S.put d1 .any).put d2 (.p (.sl bs))) ρ = Mut M S ρ := rfl
  have main : ∀ v' w', (Builtin.append_ #[t, t] o3.type #[v1, vy]).run P w = .ok v' w' → Below w.heap.size w w' → Rep (Mut M S ρ) w' (.sl (es ++ bs)) v' → wpList P ops Q (o3 :: rest) ((a.put (some d1) v1).put (some d2) vy) w := by
    intro v' w' hr3 hb hrep
    unfold wpList
    rw [if_pos (by simp [Region.wanted, g3])]
    refine .inl ?_
    unfold Oper.wp execOp
    simp only [h3, resolve, invoke, builtin, Sem.run_bind, Sem.run_pure, Result.andThen_ok, List.map_toArray, List.map_cons, List.map_nil, t1, t2, hr3]
    show wpList P ops Q rest (((a.put (some d1) v1).put (some d2) vy).put o3.dst v') w'
    rw [e3]
    exact hr M w0 ρ _ w' Q ((hs2.ext hb).put hn3 (.p hrep)) hK
  have hflat : flat (es ++ bs) = flat es ++ flat bs := by simp [flat]
  have hlt : ∀ k c, Mut M S ρ k c → k < w.heap.size := fun k c hk => Mut.lt hs hk
  have grown : ∀ v' w' ys, w.grownBy w' none → w'.ownsRow w.heap.size e sz v' (es.length + bs.length) (ys ++ us) → RepL (Mut M S ρ) w (flat es) ys → Rep (Mut M S ρ) w' (.sl (es ++ bs)) v' := by
    intro v' w' ys hg hown hys
    have hk : Keeps (Mut M S ρ) w w' := ⟨hg.size, fun k c hk _ => World.cell?_of_block (w := w) (hg.block k hk (by simp))⟩
    have hus2 : RepL (Mut M S ρ) w (flat bs) us := cellsA_pure (hMut ▸ hus)
    refine rep_ownsRow hlt hown (by rw [List.length_append]) ?_
    rw [hflat]
    exact (hys.keep hk).append (hus2.keep hk)
  rcases hv1 with ⟨hv1, h0⟩ | ⟨g, off, ys, hv1, hys, hone, hcell, hM, hgl, hmx⟩
  · subst h0
    have hown : ∀ B, w.ownsRow B e sz (.slice none 0 0) 0 [] := fun B => ⟨by simp, .inl ⟨rfl, rfl⟩⟩
    rcases hnews with ⟨hyv, hk0, hu0⟩ | ⟨ad, c, hyv, hul, hcell2⟩
    · have hb0 : bs = [] := List.eq_nil_of_length_eq_zero hk0
      subst hb0
      refine main (.slice none 0 0) w ?_ (Below.refl _ _) .nil
      rw [hyv, hv1]
      exact run_append_owned_none (P := P) w 0 t o3.type e i sz ht.h hi1 (.slice none 0 0) 0 [] (hown 0)
    · obtain ⟨v', w', hr, hown', hg, _, _⟩ := run_append_own_at (P := P) w w.heap.size t o3.type e i z sz by_ ht.h hi1 hz hisz hiby hzs hsz (.slice none 0 0) 0 [] (hown _) ad bs.length c us hul hcell2 hus.one (by simpa using hlim.2) (by simpa using hlim.1) (Nat.le_refl _)
      rw [← hv1, ← hyv] at hr
      exact main v' w' hr ⟨hg.os, hg.tape, hg.output, hg.size, fun k hk => hg.block k hk (fun h => by cases h)⟩ (grown v' w' [] hg (by simpa using hown') ⟨rfl, fun i c v h => by simp [flat] at h, fun v h => by simp at h⟩)
  · have hyl : ys.length = es.length * sz := by rw [hys.len, flat_len hes]
    rcases Nat.eq_zero_or_pos bs.length with hb | hb
    · have hb0 : bs = [] := List.eq_nil_of_length_eq_zero hb
      subst hb0
      refine main v1 w ?_ (Below.refl _ _) ?_
      · have hv : vy = .slice none 0 0 ∨ ∃ ad c, vy = .slice (some ad) 0 c := by
          rcases hnews with ⟨hyv, _, _⟩ | ⟨ad, c, hyv, _⟩
          · exact .inl hyv
          · exact .inr ⟨ad, c, hyv⟩
        rw [hv1]
        refine run_append_nothing w t t o3.type e i ht.h hi1 _ _ _ (Nat.le_refl _) _ ?_
        rcases hv with hv | ⟨ad, c, hv⟩ <;> rw [hv]
        · exact .ofNil w ht.h 0
        · exact .ofSlice w ht.h ad 0 c [] (by simp) (fun j u h => by simp at h) (fun u h => by simp at h)
      · rw [hv1, List.append_nil]
        exact .sl es g off es.length es.length ys rfl hys.len hcell hys.each hone hM hgl (Nat.le_refl _) hmx
    · rcases hnews with ⟨hyv, hk0, hu0⟩ | ⟨ad, c, hyv, hul, hcell2⟩
      · omega
      · obtain ⟨v', w', hr, hown', hg⟩ := run_append_arg_grows (P := P) w t o3.type e i z sz by_ ht.h hi1 hz hisz hiby hzs hsz ⟨g, off, none⟩ es.length es.length ys hyl (fun j u hu => by rw [add_lit]; exact hcell j u hu) ad bs.length c us hul hcell2 (by omega) hlim.2 hlim.1
        rw [← hv1, ← hyv] at hr
        exact main v' w' hr ⟨hg.os, hg.tape, hg.output, hg.size, fun k hk => hg.block k hk (by simp)⟩ (grown v' w' ys hg hown' hys)
/-- A call of a closure that turns nothing, by its contract: a value. -/
theorem w_callClo {o : Oper} {d k : Nat} {x : Operand} {f : FuncId} {args : Array Operand} {ts : Array TypeId} {ys : List PV} {b : Blk} {r : PV} [hc : HasFn P f] (hf : FnE P f (ys.map AV.p ++ [.ptr 1000 0]) [b] (.ret (.p r)) [b])
    (ho : o.op = .call { callee := .value x, args := args, argTypes := ts }) (hx : S.get x = .clo f [k]) (hargs : args.toList.map S.get = ys.map AV.p) (hb : S.blk k = some b) (hren : b.ren (sig [k]) = b) (hok : b.okE 1 = true) (hd : o.dst = some d) (hn : d < n) :
    zC P n o S [k] (.p r) none := by
  intro S2 hg hbk M w0 ρ a w KK Q hs hK
  have hbk2 : S2.blk k = some b := by rw [hbk k (by simp), hb]
  have hx2 : S2.get x = .clo f [k] := by rw [hg x (by rw [ho]; simp [Op.operands, Call.operands]), hx]
  have ha2 : args.toList.map S2.get = ys.map AV.p := by
    rw [← hargs]
    exact List.map_congr_left fun y hy => hg y (by rw [ho]; simp [Op.operands, Call.operands]; exact .inr (by simpa using hy))
  have hh : Hands S2 [k] [b] := zS (by simp) (by simpa using hok) ⟨by rw [hbk2, hren], trivial⟩
  have st := zI.wL (P := P) (n := n) (o := o) (S := S2) (K := fun _ _ => False) (N := fun S1 => S1 = (S2.after [k] [b]).put d (.p r)) [k] hf hd hn (xZ ho hx2) (by
    rw [ha2, List.map_append, List.map_map]
    rfl) hh rfl (by simpa using hok) (by
    rw [List.all_append]
    simp only [List.all_map, Bool.and_eq_true, List.all_cons, List.all_nil]
    exact ⟨List.all_eq_true.2 fun _ _ => rfl, rfl, trivial⟩) rfl rfl
  refine st M w0 ρ a w KK Q hs ?_ ?_
  · intro S1 ρ' a' w' hN hs'
    subst hN
    rw [hd] at hK
    refine hK ρ' a' w' ?_
    refine xP.sat (S := (S2.after [k] [b]).put d (.p r)) (S' := S2.put d (.p r)) ⟨fun _ => rfl, fun j => ?_⟩ hs'
    show (look (putBs [k] [b.ren (sig [k])] S2.s) j = none ∧ S2.blk j = none) ∨ ∃ b1 b2, look (putBs [k] [b.ren (sig [k])] S2.s) j = some b1 ∧ S2.blk j = some b2 ∧ Alike b1 b2
    rw [hren]
    by_cases hj : k = j
    · subst hj
      exact .inr ⟨b, b, by simp [putBs, look_putL], hbk2, .refl b⟩
    · have e : look (putBs [k] [b] S2.s) j = S2.blk j := by simp [putBs, look_putL, hj, AS.blk]
      rw [e]
      cases h : S2.blk j with
      | none => exact .inl ⟨rfl, rfl⟩
      | some c => exact .inr ⟨c, c, rfl, rfl, .refl c⟩
  · intro e S' _ _ _ h
    exact h.elim
/-- A call of a function value, by its contract: a value. -/
theorem w_callFV {o : Oper} {d : Nat} {x : Operand} {f : FuncId} {args : Array Operand} {ts : Array TypeId} {ys : List PV} {r : PV} [hc : HasFn P f] (hf : Fn P f ys (.p r))
    (ho : o.op = .call { callee := .value x, args := args, argTypes := ts }) (hx : S.get x = .p (.val (.func (.func f) #[] #[]))) (hargs : args.toList.map S.get = ys.map AV.p) (hd : o.dst = some d) (hn : d < n) :
    zC P n o S [] (.p r) none := by
  intro S2 hg _ M w0 ρ a w KK Q hs hK
  have hx2 : S2.get x = .p (.val (.func (.func f) #[] #[])) := by rw [hg x (by rw [ho]; simp [Op.operands, Call.operands]), hx]
  have ha2 : args.toList.map S2.get = ys.map AV.p := by
    rw [← hargs]
    exact List.map_congr_left fun y hy => hg y (by rw [ho]; simp [Op.operands, Call.operands]; exact .inr (by simpa using hy))
  have st := zI.wL (P := P) (n := n) (o := o) (S := S2) (K := fun _ _ => False) (N := fun S1 => S1 = (S2.after [] []).put d (.p r)) [] (FnE.ofFn hf) hd hn (vI ho hx2) (by
    rw [ha2, List.map_map]
    rfl) (zS (by simp) (by simp) trivial) rfl (by simp) (by
    simp only [List.all_map]
    exact List.all_eq_true.2 fun _ _ => rfl) rfl rfl
  refine st M w0 ρ a w KK Q hs ?_ ?_
  · intro S1 ρ' a' w' hN hs'
    subst hN
    rw [hd] at hK
    exact hK ρ' a' w' hs'
  · intro e S' _ _ _ h
    exact h.elim
end
end Go.Proofs.YthnmfmdkdngggaaDoor
/- Worlds: streams and disks: contracts. -/
namespace Go.Proofs.YthnmfmdkdngggaaDoor
set_option maxRecDepth 100000
set_option maxHeartbeats 16000000
open Go Go.RowKit
set_option linter.unusedSimpArgs false
attribute [local irreducible] zY zX Step zC Sub zL zI Fn
/-- a stream -/
def strV (d : List Int) (s : Int) : PV := .agg [.sl (byts d), .val (.int .i64 s)]
/-- streams, as a slice's elements; a disk -/
def strs (l : List (List Int × Int)) : List PV := l.map fun p => strV p.1 p.2
def wM (root : Int) (r0 r1 : List (List Int × Int)) : PV := .agg [.val (.int .u64 root), .sl (strs r0), .sl (strs r1)]
theorem strs_len (l : List (List Int × Int)) : (strs l).length = l.length := by simp [strs]
theorem strs_cells (l : List (List Int × Int)) : ∀ e ∈ strs l, e.cells.length = 2 := fun e he => by
  obtain ⟨x, _, rfl⟩ := List.mem_map.1 he
  rfl
theorem strs_at {l : List (List Int × Int)} {i : Nat} {d : List Int} {s : Int} (h : l[i]? = some (d, s)) : (strs l)[i]? = some (strV d s) := by simp [strs, h]
theorem strs_set (l : List (List Int × Int)) (i : Nat) (d : List Int) (s : Int) : (strs l).set i (strV d s) = strs (l.set i (d, s)) := by simp [strs, List.map_set]
theorem isDisk_fn (k : Int) : Fn Tryd.prog 38 [.val (.int .i64 k)] (.p (.val (.bool (decide (5 ≤ k) && decide (k ≤ 12))))) := by
  refine yM Tryd.func38 rfl Tryd.ntmps38 (Nat.le_of_ble_eq_true rfl) ?_
  repeat' ((refine zX.is ?_; first | refine zX.seq ?_ | (refine zX.isR (id := 0) ?_; refine zX.zV [0] [] (by repeat' first | exact zZ.nil | apply zZ.p rfl) (by repeat' exact zW.nil) ?_; (refine zY.v rfl rfl (zK rfl rfl rfl (by decide)) ?_); refine zY.nil ?_) | (refine zX.isR (id := 1) ?_; refine zX.zV [0, 2] [] (by repeat' first | exact zZ.nil | apply zZ.p rfl) (by repeat' exact zW.nil) ?_; all_goals (refine zY.v rfl rfl (zQ rfl rfl rfl (by decide)) ?_); all_goals (refine zY.v rfl rfl (r_geq rfl rfl rfl (by rfl) rfl (by decide)) ?_); all_goals (refine zY.v rfl rfl (zQ rfl rfl rfl (by decide)) ?_); all_goals (((fail_if_success refine zY.known rfl rfl rfl (by fail) ?_); refine zY.split rfl rfl rfl (fun h => ?_) (fun h => ?_) <;> first | refine zY.gY rfl rfl (by decide) rfl (by assumption) rfl (by decide) (zQ rfl rfl rfl (by decide)) ?_ | refine zY.gnT rfl rfl (by decide) rfl (by assumption) rfl (by decide) ?_)); all_goals (first | refine zY.gY rfl rfl (by decide) rfl (by assumption) rfl (by decide) (r_leq rfl rfl rfl (by rfl) rfl (by decide)) ?_ | refine zY.gnT rfl rfl (by decide) rfl (by assumption) rfl (by decide) ?_); all_goals (refine zY.v rfl rfl (by first | exact yZ rfl rfl (by assumption) rfl rfl (by decide) | exact yC rfl rfl (by assumption) rfl rfl (by decide)) ?_); all_goals (refine zY.v rfl rfl (zK rfl rfl rfl (by decide)) ?_); all_goals (refine zY.nil ?_)) | refine zX.ret ?_))
  · rw [h, Bool.true_and]
    exact ⟨by first | exact .inl rfl | exact .inr rfl, _, Sub.refl _, .p rfl (.tmp rfl)⟩
  · rw [h, Bool.false_and]
    exact ⟨by first | exact .inl rfl | exact .inr rfl, _, Sub.refl _, .p rfl (.tmp rfl)⟩
theorem row_fn (root : Int) (r0 r1 : PV) (h0 : 0 ≤ root) : Fn Tryd.prog 65 [.agg [.val (.int .u64 root), r0, r1]] (.p (.val (.int .i64 (root % 2)))) := by
  refine yM Tryd.func65 rfl Tryd.ntmps65 (Nat.le_of_ble_eq_true rfl) ?_
  repeat' ((refine zX.is ?_; first | refine zX.seq ?_ | (refine zX.isR (id := 0) ?_; refine zX.zV [0] [1] (by repeat' first | exact zZ.nil | apply zZ.p rfl) (by repeat' first | exact zW.nil | apply zW.skip) ?_; (refine zY.m rfl rfl (yX rfl rfl rfl (by decide)) ?_); (refine zY.v rfl rfl (zK rfl rfl rfl (by decide)) ?_); refine zY.nil ?_) | (refine zX.isR (id := 1) ?_; refine zX.zV [1, 2] [1] (by repeat' first | exact zZ.nil | apply zZ.p rfl | apply zZ.ptr rfl) (by repeat' first | exact zW.nil | apply zW.boxP rfl rfl) ?_; (refine zY.v rfl rfl (zJ rfl rfl rfl (by decide)) ?_); (refine zY.v rfl rfl (zA rfl rfl rfl rfl rfl (by decide)) ?_); (refine zY.v rfl rfl (vX rfl rfl rfl (by decide) rfl rfl (by decide)) ?_); (refine zY.v rfl rfl (y5 rfl rfl (by rfl) rfl (by decide)) ?_); (refine zY.v rfl rfl (zK rfl rfl rfl (by decide)) ?_); refine zY.nil ?_) | refine zX.ret ?_))
  have e : IntKind.i64.wrap (root.tmod 2) = root % 2 := by
    have h1 : root.tmod 2 = root % 2 := Int.tmod_eq_emod_of_nonneg h0
    have h2 := Int.emod_nonneg root (show (2 : Int) ≠ 0 by decide)
    have h3 := Int.emod_lt_of_pos root (show (0 : Int) < 2 by decide)
    rw [h1]
    rcases (show root % 2 = 0 ∨ root % 2 = 1 by omega) with h | h <;> rw [h] <;> rfl
  all_goals exact ⟨by first | exact .inl rfl | exact .inr rfl, _, Sub.refl _, .p rfl (.tmp (by rw [← e]; rfl))⟩
theorem strApp_fn (d b : List Int) (s : Int) (h : d.length + b.length ≤ 1000000) : Fn Tryd.prog 83 [strV d s, .sl (byts b)] (.p (strV (d ++ b) s)) := by
  refine yM Tryd.func83 rfl Tryd.ntmps83 (Nat.le_of_ble_eq_true rfl) ?_
  repeat' (first | (refine zY.v rfl rfl (by first | exact zJ rfl rfl rfl (by decide) | exact zA rfl rfl rfl rfl rfl (by decide) | exact zQ rfl rfl rfl (by decide)) ?_) | (refine zX.is ?_; first | refine zX.seq ?_ | (refine zX.isR (id := 0) ?_; refine zX.zV [0, 1] [2, 4] (by repeat' first | exact zZ.nil | apply zZ.p rfl) (by repeat' first | exact zW.nil | apply zW.skip) ?_; (refine zY.m rfl rfl (yX rfl rfl rfl (by decide)) ?_); (refine zY.m rfl rfl (zG rfl (by decide) rfl (by decide)) ?_); refine zY.nil ?_) | (refine zX.isR (id := 1) ?_; refine zX.zV [1, 2, 4] [2, 4] (by repeat' first | exact zZ.nil | apply zZ.p rfl | apply zZ.ptr rfl) (by repeat' first | exact zW.nil | apply zW.boxP rfl rfl) ?_; (refine zY.v rfl rfl (zJ rfl rfl rfl (by decide)) ?_); (refine zY.v rfl rfl (zA rfl rfl rfl rfl rfl (by decide)) ?_); (refine zY.v rfl rfl (xL rfl rfl rfl (by decide)) ?_); (refine zY.v rfl rfl (zK rfl rfl rfl (by decide)) ?_); refine zY.nil ?_) | (refine zX.isR (id := 2) ?_; refine zX.zV [1, 2, 4, 5] [2, 4] (by repeat' first | exact zZ.nil | apply zZ.p rfl | apply zZ.ptr rfl) (by repeat' first | exact zW.nil | apply zW.boxP rfl rfl) ?_)))
  refine zY.appTight (es := byts d) (bs := byts b) rfl rfl rfl rfl rfl rfl rfl rfl rfl rfl rfl rfl ?_ ?_ rfl (by decide) rfl (by decide) (by decide) (by decide) (byts_one d) (byts_one b) ?_ rfl (by decide) ?_
  · rw [vD]
  · rw [vD]
  · rw [vD, vD]
    simp only [maxLen]
    omega
  rw [show byts d ++ byts b = byts (d ++ b) by simp [byts]]
  repeat' (first | (refine zY.is ?_; first | refine zY.nil ?_ | refine zY.v rfl rfl (zJ rfl rfl rfl (by decide)) ?_ | refine zY.w rfl (by exact zB rfl rfl rfl rfl rfl (by rfl) (by exact Nat.le_of_ble_eq_true rfl) rfl rfl) ?_) | (refine zX.is ?_; first | refine zX.seq ?_ | (refine zX.isR (id := 3) ?_; refine zX.zV [2, 4] [2, 4] (by repeat' first | exact zZ.nil | apply zZ.ptr rfl) (by repeat' first | exact zW.nil | apply zW.boxP rfl rfl) ?_; (refine zY.v rfl rfl (zD rfl rfl rfl (by rfl) (by rfl) rfl (by decide)) ?_); (refine zY.w rfl (by exact zB rfl rfl rfl rfl rfl (by rfl) (by exact Nat.le_of_ble_eq_true rfl) rfl rfl) ?_); refine zY.nil ?_) | refine zX.ret ?_))
  all_goals exact ⟨by first | exact .inl rfl | exact .inr rfl, _, Sub.refl _, .p (r := .cell 4 50) rfl (.cellN rfl rfl (by rfl) (by rfl))⟩
theorem strSync_fn (d : List Int) (s : Int) : Fn Tryd.prog 84 [strV d s] (.p (strV d d.length)) := by
  refine yM Tryd.func84 rfl Tryd.ntmps84 (Nat.le_of_ble_eq_true rfl) ?_
  repeat' ((refine zX.is ?_; first | refine zX.seq ?_ | (refine zX.isR (id := 0) ?_; refine zX.zV [0] [1, 2] (by repeat' first | exact zZ.nil | apply zZ.p rfl) (by repeat' first | exact zW.nil | apply zW.skip) ?_; (refine zY.m rfl rfl (yX rfl rfl rfl (by decide)) ?_); (refine zY.m rfl rfl (zG rfl (by decide) rfl (by decide)) ?_); refine zY.nil ?_) | (refine zX.isR (id := 1) ?_; refine zX.zV [1, 2] [1, 2] (by repeat' first | exact zZ.nil | apply zZ.ptr rfl) (by repeat' first | exact zW.nil | apply zW.boxP rfl rfl) ?_; (refine zY.v rfl rfl (zJ rfl rfl rfl (by decide)) ?_); (refine zY.v rfl rfl (zA rfl rfl rfl rfl rfl (by decide)) ?_); (refine zY.v rfl rfl (xL rfl rfl rfl (by decide)) ?_); (refine zY.v rfl rfl (zJ rfl rfl rfl (by decide)) ?_); (refine zY.w rfl (by exact zB rfl rfl rfl rfl rfl (by rfl) (by exact Nat.le_of_ble_eq_true rfl) rfl rfl) ?_); refine zY.nil ?_) | (refine zX.isR (id := 2) ?_; refine zX.zV [1, 2] [1, 2] (by repeat' first | exact zZ.nil | apply zZ.ptr rfl) (by repeat' first | exact zW.nil | apply zW.boxP rfl rfl) ?_; (refine zY.v rfl rfl (zD rfl rfl rfl (by rfl) (by rfl) rfl (by decide)) ?_); (refine zY.w rfl (by exact zB rfl rfl rfl rfl rfl (by rfl) (by exact Nat.le_of_ble_eq_true rfl) rfl rfl) ?_); refine zY.nil ?_) | refine zX.ret ?_))
  all_goals exact ⟨by first | exact .inl rfl | exact .inr rfl, _, Sub.refl _, .p (r := .cell 2 50) rfl (.cellN rfl rfl (by rfl) (by rfl))⟩
theorem cloneS_fn (l : List (List Int × Int)) (h0 : 1 ≤ l.length) (h1 : l.length ≤ 1000000) : Fn Tryd.prog 95 [.sl (strs l)] (.row 50 2 (strs l).length (flat (strs l))) := by
  have g1 := strs_cells l
  have g2 : strs l ≠ [] := fun e => by have := congrArg List.length e; rw [strs_len, List.length_nil] at this; omega
  have g3 := grow_lim (strs l).length 32 (by rw [strs_len]; exact h1) (by decide)
  refine yM Tryd.func95 rfl Tryd.ntmps95 (Nat.le_of_ble_eq_true rfl) ?_
  repeat' ((refine zX.is ?_; first | refine zX.seq ?_ | (refine zX.isR (id := 0) ?_; refine zX.zV [0] [2, 5] (by repeat' first | exact zZ.nil | apply zZ.p rfl) (by repeat' first | exact zW.nil | apply zW.skip) ?_; (refine zY.v rfl rfl (zK rfl rfl rfl (by decide)) ?_); refine zY.nil ?_) | (refine zX.isR (id := 1) ?_; refine zX.zV [0, 2] [2, 5] (by repeat' first | exact zZ.nil | apply zZ.p rfl) (by repeat' first | exact zW.nil | apply zW.skip) ?_; (refine zY.v rfl rfl (zQ rfl rfl rfl (by decide)) ?_); (refine zY.v rfl rfl (by exact r_eqlNil rfl rfl rfl (by exact g2) (by exact bF (by decide)) rfl (by decide)) ?_); refine zY.nil ?_) | (refine zX.isR (id := 3) ?_; refine zX.zV [0, 2] [2, 5] (by repeat' first | exact zZ.nil | apply zZ.p rfl) (by repeat' first | exact zW.nil | apply zW.skip) ?_; (refine zY.m rfl rfl (w_build0V rfl rfl (by decide)) ?_); (refine zY.v rfl rfl (zQ rfl rfl rfl (by decide)) ?_); (refine zY.w rfl (by exact w_appV rfl rfl rfl rfl (by exact g1) (by exact g3) rfl (by decide) rfl (by decide)) ?_); (refine zY.v rfl rfl (xE rfl rfl rfl (by decide)) ?_); refine zY.nil ?_) | refine zX.yN rfl (by with_reducible rfl) ?_ | refine zX.skip ?_ | refine zX.ret ?_))
  all_goals exact ⟨by first | exact .inl rfl | exact .inr rfl, givesRowV rfl rfl rfl⟩
end Go.Proofs.YthnmfmdkdngggaaDoor
/- Disks: a stream turned: contracts. -/
namespace Go.Proofs.YthnmfmdkdngggaaDoor
set_option maxRecDepth 100000
set_option maxHeartbeats 16000000
open Go Go.RowKit
set_option linter.unusedSimpArgs false
attribute [local irreducible] zY zX Step zC Sub zL zI Fn
theorem appendC_fn (d bs : List Int) (s : Int) (h : d.length + bs.length ≤ 1000000) : FnE Tryd.prog 82 ([strV d s].map AV.p ++ [.ptr 1000 0]) [.box 48 [.p (.sl (byts bs))]] (.ret (.p (strV (d ++ bs) s))) [.box 48 [.p (.sl (byts bs))]] := by
  have c := strApp_fn d bs s h
  refine vK Tryd.func82 rfl Tryd.ntmps82 (Nat.le_of_ble_eq_true rfl) (by decide) ?_
  repeat' ((refine zX.is ?_; first | refine zX.seq ?_ | (refine zX.isR (id := 0) ?_; refine zX.zV [0, 1] [2, 3, 1000] (by repeat' first | exact zZ.nil | apply zZ.p rfl | apply zZ.ptr rfl) (by repeat' first | exact zW.nil | apply zW.boxP rfl rfl | apply zW.skip) ?_; (refine zY.m rfl rfl (yX rfl rfl rfl (by decide)) ?_); (refine zY.m rfl rfl (zG rfl (by decide) rfl (by decide)) ?_); refine zY.nil ?_) | (refine zX.isR (id := 1) ?_; refine zX.zV [1, 2, 3] [2, 3, 1000] (by repeat' first | exact zZ.nil | apply zZ.ptr rfl) (by repeat' first | exact zW.nil | apply zW.boxP rfl rfl) ?_; (refine zY.v rfl rfl (zD rfl rfl rfl (by rfl) (by rfl) rfl (by decide)) ?_); (refine zY.v rfl rfl (zA rfl rfl rfl rfl rfl (by decide)) ?_); (refine zY.v rfl rfl (by exact zR (c) rfl rfl rfl (by decide)) ?_); (refine zY.w rfl (by exact zB rfl rfl rfl rfl rfl (by rfl) (by exact Nat.le_of_ble_eq_true rfl) rfl rfl) ?_); refine zY.nil ?_) | refine zX.ret ?_))
  all_goals exact ⟨(by exact .inl rfl), _, Sub.refl _, .p (r := .cell 3 50) rfl (.cellN rfl rfl (by rfl) (by rfl)), xK (by repeat' first | exact trivial | rfl | constructor)⟩
theorem is0_fn (root : Int) (r0 r1 : List (List Int × Int)) (i : Nat) (hi : i < r0.length) : Fn Tryd.prog 85 [wM root r0 r1, .val (.int .i64 0), .val (.int .i64 i)] (.p (.val (.bool true))) := by
  have g1 : decide ((0 : Int) ≤ i) = true := decide_eq_true (by omega)
  have g2 : decide ((i : Int) < (strs r0).length) = true := decide_eq_true (by rw [strs_len]; omega)
  refine yM Tryd.func85 rfl Tryd.ntmps85 (Nat.le_of_ble_eq_true rfl) ?_
  repeat' ((refine zX.is ?_; first | refine zX.seq ?_ | (refine zX.isR (id := 0) ?_; refine zX.zV [0, 1, 2] [3] (by repeat' first | exact zZ.nil | apply zZ.p rfl) (by repeat' first | exact zW.nil | apply zW.skip) ?_; (refine zY.m rfl rfl (yX rfl rfl rfl (by decide)) ?_); (refine zY.v rfl rfl (zK rfl rfl rfl (by decide)) ?_); refine zY.nil ?_) | (refine zX.isR (id := 1) ?_; refine zX.zV [1, 2, 3, 6] [3] (by repeat' first | exact zZ.nil | apply zZ.p rfl | apply zZ.ptr rfl) (by repeat' first | exact zW.nil | apply zW.boxP rfl rfl) ?_; all_goals (refine zY.v rfl rfl (zQ rfl rfl rfl (by decide)) ?_); all_goals (refine zY.v rfl rfl (by exact r_geq rfl rfl rfl (by exact g1) rfl (by decide)) ?_); all_goals (refine zY.v rfl rfl (zQ rfl rfl rfl (by decide)) ?_); all_goals (refine zY.gY rfl rfl (by decide) rfl (by assumption) rfl (by decide) (zQ rfl rfl rfl (by decide)) ?_); all_goals (refine zY.gY rfl rfl (by decide) rfl (by assumption) rfl (by decide) (by exact yI rfl rfl rfl (by exact g1) rfl (by decide)) ?_); all_goals (refine zY.v rfl rfl (by exact yZ rfl rfl (by assumption) rfl rfl (by decide)) ?_); all_goals (refine zY.v rfl rfl (zQ rfl rfl rfl (by decide)) ?_); all_goals (refine zY.gY rfl rfl (by decide) rfl (by assumption) rfl (by decide) (zQ rfl rfl rfl (by decide)) ?_); all_goals (refine zY.gY rfl rfl (by decide) rfl (by assumption) rfl (by decide) (by exact r_geq rfl rfl rfl (by exact g1) rfl (by decide)) ?_); all_goals (refine zY.v rfl rfl (by exact yZ rfl rfl (by assumption) rfl rfl (by decide)) ?_); all_goals (refine zY.v rfl rfl (zQ rfl rfl rfl (by decide)) ?_); all_goals (refine zY.gY rfl rfl (by decide) rfl (by assumption) rfl (by decide) (zQ rfl rfl rfl (by decide)) ?_); all_goals (refine zY.gY rfl rfl (by decide) rfl (by assumption) rfl (by decide) (zQ rfl rfl rfl (by decide)) ?_); all_goals (refine zY.gY rfl rfl (by decide) rfl (by assumption) rfl (by decide) (zJ rfl rfl rfl (by decide)) ?_); all_goals (refine zY.gY rfl rfl (by decide) rfl (by assumption) rfl (by decide) (by exact xJ rfl rfl rfl (by omega) rfl (by decide)) ?_); all_goals (refine zY.gY rfl rfl (by decide) rfl (by assumption) rfl (by decide) (zA rfl rfl rfl (by rfl) rfl (by decide)) ?_); all_goals (refine zY.gY rfl rfl (by decide) rfl (by assumption) rfl (by decide) (wC rfl rfl rfl (by decide)) ?_); all_goals (refine zY.gY rfl rfl (by decide) rfl (by assumption) rfl (by decide) (by exact yI rfl rfl rfl (by exact g2) rfl (by decide)) ?_); all_goals (refine zY.v rfl rfl (by exact yZ rfl rfl (by assumption) rfl rfl (by decide)) ?_); all_goals (refine zY.v rfl rfl (zK rfl rfl rfl (by decide)) ?_); all_goals (refine zY.nil ?_)) | refine zX.ret ?_))
  all_goals exact ⟨by first | exact .inl rfl | exact .inr rfl, _, Sub.refl _, .p rfl (.tmp rfl)⟩
theorem turnA0_fn (root : Int) (r0 r1 : List (List Int × Int)) (i : Nat) (d : List Int) (s : Int) (bs : List Int) (hi : r0[i]? = some (d, s)) (h1 : r0.length ≤ 1000000) (h2 : d.length + bs.length ≤ 1000000) :
    FnE Tryd.prog 81 [.p (wM root r0 r1), .p (.val (.int .i64 0)), .p (.val (.int .i64 i)), .clo 82 [1000]] [.box 48 [.p (.sl (byts bs))]] (.ret (.tup [.p (wM root (r0.set i (d ++ bs, s)) r1), .p (.val (.int .i64 0))])) [.box 48 [.p (.sl (byts bs))]] := by
  have hlt : i < r0.length := (List.getElem?_eq_some_iff.1 hi).1
  have g1 := strs_cells r0
  have g3 := strs_at hi
  have g6 : (0 : Int) ≤ (i : Int) ∧ (i : Int) < (strs r0).length := by rw [strs_len]; omega
  have g7 : (i : Int).toNat < (strs r0).length := by rw [strs_len]; omega
  have c0 := is0_fn root r0 r1 i hlt
  have c1 := cloneS_fn r0 (by omega) h1
  have e : wM root (r0.set i (d ++ bs, s)) r1 = .agg [.val (.int .u64 root), .sl ((strs r0).set (i : Int).toNat (strV (d ++ bs) s)), .sl (strs r1)] := by simp [wM, strs_set]
  have c2 := appendC_fn d bs s h2
  refine vK Tryd.func81 rfl Tryd.ntmps81 (Nat.le_of_ble_eq_true rfl) (by decide) ?_
  repeat' ((refine zX.is ?_; first | refine zX.seq ?_ | (refine zX.isR (id := 0) ?_; refine zX.zV [0, 1, 2, 3] [4, 8, 13, 21, 37, 1000] (by repeat' first | exact zZ.nil | apply zZ.p rfl | apply zZ.clo rfl) (by repeat' first | exact zW.nil | apply zW.boxP rfl rfl | apply zW.skip) ?_; (refine zY.m rfl rfl (yX rfl rfl rfl (by decide)) ?_); (refine zY.m rfl rfl (zG rfl (by decide) rfl (by decide)) ?_); (refine zY.v rfl rfl (zK rfl rfl rfl (by decide)) ?_); refine zY.nil ?_) | (refine zX.isR (id := 1) ?_; refine zX.zV [1, 2, 3, 4, 8, 9] [4, 8, 13, 21, 37, 1000] (by repeat' first | exact zZ.nil | apply zZ.p rfl | apply zZ.ptr rfl | apply zZ.clo rfl) (by repeat' first | exact zW.nil | apply zW.boxP rfl rfl | apply zW.skip) ?_; (refine zY.v rfl rfl (zD rfl rfl rfl (by rfl) (by rfl) rfl (by decide)) ?_); (refine zY.v rfl rfl (zQ rfl rfl rfl (by decide)) ?_); (refine zY.v rfl rfl (zQ rfl rfl rfl (by decide)) ?_); (refine zY.v rfl rfl (by exact zR (c0) rfl rfl rfl (by decide)) ?_); (refine zY.v rfl rfl (by exact xU rfl rfl (by exact bF (by decide)) rfl (by decide)) ?_); refine zY.nil ?_) | (refine zX.isR (id := 3) ?_; refine zX.zV [1, 2, 3, 4, 8, 9] [4, 8, 13, 21, 37, 1000] (by repeat' first | exact zZ.nil | apply zZ.p rfl | apply zZ.ptr rfl | apply zZ.clo rfl) (by repeat' first | exact zW.nil | apply zW.boxP rfl rfl | apply zW.skip) ?_; (refine zY.v rfl rfl (zQ rfl rfl rfl (by decide)) ?_); (refine zY.v rfl rfl (zQ rfl rfl rfl (by decide)) ?_); (refine zY.v rfl rfl (zJ rfl rfl rfl (by decide)) ?_); (refine zY.v rfl rfl (by exact xJ rfl rfl rfl (by omega) rfl (by decide)) ?_); (refine zY.v rfl rfl (zA rfl rfl rfl (by rfl) rfl (by decide)) ?_); (refine zY.m rfl rfl (by exact w_callRowV c1 rfl rfl rfl (by decide)) ?_); (refine zY.v rfl rfl (zJ rfl rfl rfl (by decide)) ?_); (refine zY.v rfl rfl (by exact xJ rfl rfl rfl (by omega) rfl (by decide)) ?_); (refine zY.w rfl (by exact w_storeO rfl rfl rfl rfl rfl rfl (by exact Nat.le_of_ble_eq_true rfl) rfl rfl) ?_); refine zY.nil ?_) | (refine zX.isR (id := 4) ?_; refine zX.yF [1, 2, 3, 4, 8, 9] [4, 8, 13, 21, 37, 1000] (by repeat' first | exact zZ.nil | apply zZ.p rfl | apply zZ.ptr rfl | apply zZ.clo rfl) (by repeat' first | exact zW.nil | apply zW.boxP rfl rfl | apply zW.some rfl | apply zW.skip) (zX.draws ?_); all_goals (refine Draws.v rfl rfl (zQ rfl rfl rfl (by decide)) ?_); all_goals (refine Draws.v rfl rfl (zJ rfl rfl rfl (by decide)) ?_); all_goals (refine Draws.v rfl rfl (by exact xJ rfl rfl rfl (by omega) rfl (by decide)) ?_); all_goals (refine Draws.v rfl rfl (w_loadO rfl rfl rfl rfl rfl (by decide)) ?_); all_goals (refine Draws.v rfl rfl (zQ rfl rfl rfl (by decide)) ?_); all_goals (refine Draws.v rfl rfl (zM rfl rfl rfl (by decide)) ?_); all_goals (refine Draws.v rfl rfl (zQ rfl rfl rfl (by decide)) ?_); all_goals (refine Draws.v rfl rfl (zJ rfl rfl rfl (by decide)) ?_); all_goals (refine Draws.v rfl rfl (by exact xJ rfl rfl rfl (by omega) rfl (by decide)) ?_); all_goals (refine Draws.v rfl rfl (w_loadO rfl rfl rfl rfl rfl (by decide)) ?_); all_goals (refine Draws.v rfl rfl (zQ rfl rfl rfl (by decide)) ?_); all_goals (refine Draws.v rfl rfl (by exact vE rfl rfl rfl rfl (by exact g6) rfl (by decide)) ?_); all_goals (refine Draws.v rfl rfl (by exact w_loadVN rfl rfl rfl (by exact g1) rfl (by exact g3) rfl (by decide)) ?_); all_goals (refine Draws.v rfl rfl (by exact w_callClo (c2) rfl rfl rfl rfl rfl rfl rfl (by decide)) ?_); all_goals (refine Draws.v rfl rfl (by exact vE rfl rfl rfl rfl (by exact g6) rfl (by decide)) ?_); all_goals ((refine Draws.done (by kernel_rfl) (by kernel_rfl) (by kernel_rfl) ?_; refine zL.w rfl (by exact w_storeV rfl rfl rfl rfl rfl (by exact g1) (by rfl) rfl (by exact g7) rfl) ?_)); all_goals (refine zL.nil ?_)) | (refine zX.isR (id := 5) ?_; refine zX.sub (sub_frz (id := 21) rfl) ?_; refine zX.zV [4, 8, 9] [4, 8, 13, 21, 37, 1000] (by repeat' first | exact zZ.nil | apply zZ.p rfl | apply zZ.ptr rfl) (by repeat' first | exact zW.nil | apply zW.boxP rfl rfl | apply zW.skip) ?_; (refine zY.v rfl rfl (zD rfl rfl rfl (by rfl) (by rfl) rfl (by decide)) ?_); (refine zY.w rfl (by exact zB rfl rfl rfl rfl rfl (by rfl) (by exact Nat.le_of_ble_eq_true rfl) rfl rfl) ?_); (refine zY.v rfl rfl (zK rfl rfl rfl (by decide)) ?_); refine zY.nil ?_) | refine zX.yN rfl (by with_reducible rfl) ?_ | refine zX.skip ?_ | refine zX.ret ?_))
  rw [e]
  all_goals exact ⟨(by exact .inl rfl), _, Sub.refl _, .tup (rs := [.cell 8 31, .tmp 9]) (l := [.agg [.val (.int .u64 root), .sl ((strs r0).set (i : Int).toNat (strV (d ++ bs) s)), .sl (strs r1)], .val (.int .i64 0)]) rfl (by decide) (.cons (.cellN rfl rfl (by rfl) (by rfl)) (.cons (.tmp rfl) .nil)), xK (by repeat' first | exact trivial | rfl | constructor)⟩
theorem turnS0_fn (root : Int) (r0 r1 : List (List Int × Int)) (i : Nat) (d : List Int) (s : Int) (hi : r0[i]? = some (d, s)) (h1 : r0.length ≤ 1000000) :
    Fn Tryd.prog 81 [wM root r0 r1, .val (.int .i64 0), .val (.int .i64 i), .val (funV 84)] (.tup [wM root (r0.set i (d, d.length)) r1, .val (.int .i64 0)]) := by
  have hlt : i < r0.length := (List.getElem?_eq_some_iff.1 hi).1
  have g1 := strs_cells r0
  have g3 := strs_at hi
  have g6 : (0 : Int) ≤ (i : Int) ∧ (i : Int) < (strs r0).length := by rw [strs_len]; omega
  have g7 : (i : Int).toNat < (strs r0).length := by rw [strs_len]; omega
  have c0 := is0_fn root r0 r1 i hlt
  have c1 := cloneS_fn r0 (by omega) h1
  have e : wM root (r0.set i (d, d.length)) r1 = .agg [.val (.int .u64 root), .sl ((strs r0).set (i : Int).toNat (strV d d.length)), .sl (strs r1)] := by simp [wM, strs_set]
  have c2 := strSync_fn d s
  refine yM Tryd.func81 rfl Tryd.ntmps81 (Nat.le_of_ble_eq_true rfl) ?_
  repeat' ((refine zX.is ?_; first | refine zX.seq ?_ | (refine zX.isR (id := 0) ?_; refine zX.zV [0, 1, 2, 3] [4, 8, 13, 21, 37] (by repeat' first | exact zZ.nil | apply zZ.p rfl) (by repeat' first | exact zW.nil | apply zW.skip) ?_; (refine zY.m rfl rfl (yX rfl rfl rfl (by decide)) ?_); (refine zY.m rfl rfl (zG rfl (by decide) rfl (by decide)) ?_); (refine zY.v rfl rfl (zK rfl rfl rfl (by decide)) ?_); refine zY.nil ?_) | (refine zX.isR (id := 1) ?_; refine zX.zV [1, 2, 3, 4, 8, 9] [4, 8, 13, 21, 37] (by repeat' first | exact zZ.nil | apply zZ.p rfl | apply zZ.ptr rfl) (by repeat' first | exact zW.nil | apply zW.boxP rfl rfl | apply zW.skip) ?_; (refine zY.v rfl rfl (zD rfl rfl rfl (by rfl) (by rfl) rfl (by decide)) ?_); (refine zY.v rfl rfl (zQ rfl rfl rfl (by decide)) ?_); (refine zY.v rfl rfl (zQ rfl rfl rfl (by decide)) ?_); (refine zY.v rfl rfl (by exact zR (c0) rfl rfl rfl (by decide)) ?_); (refine zY.v rfl rfl (by exact xU rfl rfl (by exact bF (by decide)) rfl (by decide)) ?_); refine zY.nil ?_) | (refine zX.isR (id := 3) ?_; refine zX.zV [1, 2, 3, 4, 8, 9] [4, 8, 13, 21, 37] (by repeat' first | exact zZ.nil | apply zZ.p rfl | apply zZ.ptr rfl) (by repeat' first | exact zW.nil | apply zW.boxP rfl rfl | apply zW.skip) ?_; (refine zY.v rfl rfl (zQ rfl rfl rfl (by decide)) ?_); (refine zY.v rfl rfl (zQ rfl rfl rfl (by decide)) ?_); (refine zY.v rfl rfl (zJ rfl rfl rfl (by decide)) ?_); (refine zY.v rfl rfl (by exact xJ rfl rfl rfl (by omega) rfl (by decide)) ?_); (refine zY.v rfl rfl (zA rfl rfl rfl (by rfl) rfl (by decide)) ?_); (refine zY.m rfl rfl (by exact w_callRowV c1 rfl rfl rfl (by decide)) ?_); (refine zY.v rfl rfl (zJ rfl rfl rfl (by decide)) ?_); (refine zY.v rfl rfl (by exact xJ rfl rfl rfl (by omega) rfl (by decide)) ?_); (refine zY.w rfl (by exact w_storeO rfl rfl rfl rfl rfl rfl (by exact Nat.le_of_ble_eq_true rfl) rfl rfl) ?_); refine zY.nil ?_) | (refine zX.isR (id := 4) ?_; refine zX.yF [1, 2, 3, 4, 8, 9] [4, 8, 13, 21, 37] (by repeat' first | exact zZ.nil | apply zZ.p rfl | apply zZ.ptr rfl) (by repeat' first | exact zW.nil | apply zW.boxP rfl rfl | apply zW.some rfl | apply zW.skip) (zX.draws ?_); all_goals (refine Draws.v rfl rfl (zQ rfl rfl rfl (by decide)) ?_); all_goals (refine Draws.v rfl rfl (zJ rfl rfl rfl (by decide)) ?_); all_goals (refine Draws.v rfl rfl (by exact xJ rfl rfl rfl (by omega) rfl (by decide)) ?_); all_goals (refine Draws.v rfl rfl (w_loadO rfl rfl rfl rfl rfl (by decide)) ?_); all_goals (refine Draws.v rfl rfl (zQ rfl rfl rfl (by decide)) ?_); all_goals (refine Draws.v rfl rfl (zQ rfl rfl rfl (by decide)) ?_); all_goals (refine Draws.v rfl rfl (zQ rfl rfl rfl (by decide)) ?_); all_goals (refine Draws.v rfl rfl (zJ rfl rfl rfl (by decide)) ?_); all_goals (refine Draws.v rfl rfl (by exact xJ rfl rfl rfl (by omega) rfl (by decide)) ?_); all_goals (refine Draws.v rfl rfl (w_loadO rfl rfl rfl rfl rfl (by decide)) ?_); all_goals (refine Draws.v rfl rfl (zQ rfl rfl rfl (by decide)) ?_); all_goals (refine Draws.v rfl rfl (by exact vE rfl rfl rfl rfl (by exact g6) rfl (by decide)) ?_); all_goals (refine Draws.v rfl rfl (by exact w_loadVN rfl rfl rfl (by exact g1) rfl (by exact g3) rfl (by decide)) ?_); all_goals (refine Draws.v rfl rfl (by exact w_callFV (c2) rfl rfl rfl rfl (by decide)) ?_); all_goals (refine Draws.v rfl rfl (by exact vE rfl rfl rfl rfl (by exact g6) rfl (by decide)) ?_); all_goals ((refine Draws.done (by kernel_rfl) (by kernel_rfl) (by kernel_rfl) ?_; refine zL.w rfl (by exact w_storeV rfl rfl rfl rfl rfl (by exact g1) (by rfl) rfl (by exact g7) rfl) ?_)); all_goals (refine zL.nil ?_)) | (refine zX.isR (id := 5) ?_; refine zX.sub (sub_frz (id := 21) rfl) ?_; refine zX.zV [4, 8, 9] [4, 8, 13, 21, 37] (by repeat' first | exact zZ.nil | apply zZ.p rfl | apply zZ.ptr rfl) (by repeat' first | exact zW.nil | apply zW.boxP rfl rfl | apply zW.skip) ?_; (refine zY.v rfl rfl (zD rfl rfl rfl (by rfl) (by rfl) rfl (by decide)) ?_); (refine zY.w rfl (by exact zB rfl rfl rfl rfl rfl (by rfl) (by exact Nat.le_of_ble_eq_true rfl) rfl rfl) ?_); (refine zY.v rfl rfl (zK rfl rfl rfl (by decide)) ?_); refine zY.nil ?_) | refine zX.yN rfl (by with_reducible rfl) ?_ | refine zX.skip ?_ | refine zX.ret ?_))
  rw [e]
  all_goals exact ⟨(by exact .inl rfl), _, Sub.refl _, .tup (rs := [.cell 8 31, .tmp 9]) (l := [.agg [.val (.int .u64 root), .sl ((strs r0).set (i : Int).toNat (strV d d.length)), .sl (strs r1)], .val (.int .i64 0)]) rfl (by decide) (.cons (.cellN rfl rfl (by rfl) (by rfl)) (.cons (.tmp rfl) .nil))⟩
theorem diskApp0_fn (root : Int) (r0 r1 : List (List Int × Int)) (i : Nat) (d : List Int) (s : Int) (bs : List Int) (hi : r0[i]? = some (d, s)) (h1 : r0.length ≤ 1000000) (h2 : d.length + bs.length ≤ 1000000) :
    Fn Tryd.prog 66 [wM root r0 r1, .val (.int .i64 0), .val (.int .i64 i), .sl (byts bs)] (.tup [wM root (r0.set i (d ++ bs, s)) r1, .val (.int .i64 0)]) := by
  refine yM Tryd.func66 rfl Tryd.ntmps66 (Nat.le_of_ble_eq_true rfl) ?_
  repeat' ((refine zX.is ?_; first | refine zX.seq ?_ | (refine zX.isR (id := 0) ?_; refine zX.zV [0, 1, 2, 3] [4, 7, 8] (by repeat' first | exact zZ.nil | apply zZ.p rfl) (by repeat' first | exact zW.nil | apply zW.skip) ?_; (refine zY.m rfl rfl (yX rfl rfl rfl (by decide)) ?_); (refine zY.m rfl rfl (w_boxS rfl rfl rfl (by decide)) ?_); (refine zY.m rfl rfl (zG rfl (by decide) rfl (by decide)) ?_); (refine zY.v rfl rfl (zK rfl rfl rfl (by decide)) ?_); refine zY.nil ?_) | (refine zX.isR (id := 1) ?_; refine zX.zV [1, 2, 4, 7, 8, 9] [4, 7, 8] (by repeat' first | exact zZ.nil | apply zZ.p rfl | apply zZ.ptr rfl) (by repeat' first | exact zW.nil | apply zW.boxP rfl rfl) ?_; (refine zY.v rfl rfl (zD rfl rfl rfl (by rfl) (by rfl) rfl (by decide)) ?_); (refine zY.v rfl rfl (zQ rfl rfl rfl (by decide)) ?_); (refine zY.v rfl rfl (zQ rfl rfl rfl (by decide)) ?_); (refine zY.v rfl rfl (wO rfl (by rfl) rfl (by decide)) ?_); (refine zY.ofT rfl (zI.wL [7] (turnA0_fn root r0 r1 i d s bs hi h1 h2) rfl (by decide) (zH rfl) (by rfl) (zS (by decide) rfl (by repeat' first | exact trivial | rfl | constructor)) rfl rfl rfl rfl ?_)); (refine zY.v rfl rfl (zF rfl rfl rfl rfl (by decide)) ?_); (refine zY.v rfl rfl (zF rfl rfl rfl rfl (by decide)) ?_); (refine zY.w rfl (by exact zB rfl rfl rfl rfl rfl (by rfl) (by exact Nat.le_of_ble_eq_true rfl) rfl rfl) ?_); (refine zY.v rfl rfl (zK rfl rfl rfl (by decide)) ?_); refine zY.nil ?_) | refine zX.ret ?_))
  all_goals exact ⟨(by exact .inl rfl), _, Sub.refl _, .tup (rs := [.cell 8 31, .tmp 9]) (l := [wM root (r0.set i (d ++ bs, s)) r1, .val (.int .i64 0)]) rfl (by decide) (.cons (.cellN rfl rfl (by rfl) (by rfl)) (.cons (.tmp rfl) .nil))⟩
theorem diskSync0_fn (root : Int) (r0 r1 : List (List Int × Int)) (i : Nat) (d : List Int) (s : Int) (hi : r0[i]? = some (d, s)) (h1 : r0.length ≤ 1000000) :
    Fn Tryd.prog 67 [wM root r0 r1, .val (.int .i64 0), .val (.int .i64 i)] (.tup [wM root (r0.set i (d, d.length)) r1, .val (.int .i64 0)]) := by
  refine yM Tryd.func67 rfl Tryd.ntmps67 (Nat.le_of_ble_eq_true rfl) ?_
  repeat' ((refine zX.is ?_; first | refine zX.seq ?_ | (refine zX.isR (id := 0) ?_; refine zX.zV [0, 1, 2] [3, 6] (by repeat' first | exact zZ.nil | apply zZ.p rfl) (by repeat' first | exact zW.nil | apply zW.skip) ?_; (refine zY.m rfl rfl (yX rfl rfl rfl (by decide)) ?_); (refine zY.m rfl rfl (zG rfl (by decide) rfl (by decide)) ?_); (refine zY.v rfl rfl (zK rfl rfl rfl (by decide)) ?_); refine zY.nil ?_) | (refine zX.isR (id := 1) ?_; refine zX.zV [1, 2, 3, 6, 7] [3, 6] (by repeat' first | exact zZ.nil | apply zZ.p rfl | apply zZ.ptr rfl) (by repeat' first | exact zW.nil | apply zW.boxP rfl rfl) ?_; (refine zY.v rfl rfl (zD rfl rfl rfl (by rfl) (by rfl) rfl (by decide)) ?_); (refine zY.v rfl rfl (zQ rfl rfl rfl (by decide)) ?_); (refine zY.v rfl rfl (zQ rfl rfl rfl (by decide)) ?_); (refine zY.v rfl rfl (by exact yU (turnS0_fn root r0 r1 i d s hi h1) rfl rfl rfl (by decide)) ?_); (refine zY.v rfl rfl (zF rfl rfl rfl rfl (by decide)) ?_); (refine zY.v rfl rfl (zF rfl rfl rfl rfl (by decide)) ?_); (refine zY.w rfl (by exact zB rfl rfl rfl rfl rfl (by rfl) (by exact Nat.le_of_ble_eq_true rfl) rfl rfl) ?_); (refine zY.v rfl rfl (zK rfl rfl rfl (by decide)) ?_); refine zY.nil ?_) | refine zX.ret ?_))
  all_goals exact ⟨(by exact .inl rfl), _, Sub.refl _, .tup (rs := [.cell 6 31, .tmp 7]) (l := [wM root (r0.set i (d, d.length)) r1, .val (.int .i64 0)]) rfl (by decide) (.cons (.cellN rfl rfl (by rfl) (by rfl)) (.cons (.tmp rfl) .nil))⟩
end Go.Proofs.YthnmfmdkdngggaaDoor
/- Worlds: an access made: contracts. -/
namespace Go.Proofs.YthnmfmdkdngggaaDoor
set_option maxRecDepth 100000
set_option maxHeartbeats 16000000
open Go Go.RowKit
set_option linter.unusedSimpArgs false
attribute [local irreducible] zY zX Step zC Sub zL zI Fn
/-- a world; a result that tells that the disk failed -/
def wD (t c : Int) (ws : List Int) (root : Int) (r0 r1 : List (List Int × Int)) : PV := .agg [.val (.int .i64 t), .val (.int .i64 c), .sl (wds ws), .val (.int .u64 root), .sl (strs r0), .sl (strs r1)]
def resF : PV := .agg [.val (.int .u64 0), .val (.slice none 0 0), .val (.bool true)]
theorem streams50_fn (root : Int) (r0 r1 : List (List Int × Int)) (i : Nat) (d : List Int) (s p q r : Int) (bs : List Int) (h0 : 0 ≤ root) (hr : root % 2 = 0) (hi : r0[i]? = some (d, s)) (h1 : r0.length ≤ 1000000) (h2 : d.length + bs.length ≤ 1000000) :
    Fn Tryd.prog 39 [wM root r0 r1, .val (.int .i64 i), accV 5 p q r (.sl (byts bs))] (.tup [wM root (r0.set i (d ++ bs, s)) r1, resN 0]) := by
  have c0 : Fn Tryd.prog 65 [wM root r0 r1] (.p (.val (.int .i64 0))) := hr ▸ row_fn root (.sl (strs r0)) (.sl (strs r1)) h0
  have c1 := diskApp0_fn root r0 r1 i d s bs hi h1 h2
  refine yM Tryd.func39 rfl Tryd.ntmps39 (Nat.le_of_ble_eq_true rfl) ?_
  repeat' ((refine zX.is ?_; first | refine zX.seq ?_ | (refine zX.isR (id := 0) ?_; refine zX.zV [0, 1, 2] [3, 5, 6, 7, 9] (by repeat' first | exact zZ.nil | apply zZ.p rfl) (by repeat' first | exact zW.nil | apply zW.skip) ?_; (refine zY.m rfl rfl (yX rfl rfl rfl (by decide)) ?_); (refine zY.m rfl rfl (yX rfl rfl rfl (by decide)) ?_); (refine zY.m rfl rfl (zG rfl (by decide) rfl (by decide)) ?_); (refine zY.m rfl rfl (zG rfl (by decide) rfl (by decide)) ?_); refine zY.nil ?_) | (refine zX.isR (id := 1) ?_; refine zX.zV [1, 3, 5, 6, 7] [3, 5, 6, 7, 9] (by repeat' first | exact zZ.nil | apply zZ.p rfl | apply zZ.ptr rfl) (by repeat' first | exact zW.nil | apply zW.boxP rfl rfl | apply zW.skip) ?_; (refine zY.v rfl rfl (zD rfl rfl rfl (by rfl) (by rfl) rfl (by decide)) ?_); (refine zY.v rfl rfl (by exact zR (c0) rfl rfl rfl (by decide)) ?_); (refine zY.v rfl rfl (zK rfl rfl rfl (by decide)) ?_); refine zY.nil ?_) | (refine zX.isR (id := 2) ?_; refine zX.zV [1, 3, 5, 6, 7, 8] [3, 5, 6, 7, 9] (by repeat' first | exact zZ.nil | apply zZ.p rfl | apply zZ.ptr rfl) (by repeat' first | exact zW.nil | apply zW.boxP rfl rfl | apply zW.skip) ?_; (refine zY.m rfl rfl (zG rfl (by decide) rfl (by decide)) ?_); refine zY.nil ?_) | (refine zX.isR (id := 3) ?_; refine zX.zV [1, 3, 5, 6, 7, 8, 9] [3, 5, 6, 7, 9] (by repeat' first | exact zZ.nil | apply zZ.p rfl | apply zZ.ptr rfl) (by repeat' first | exact zW.nil | apply zW.boxP rfl rfl) ?_; (refine zY.v rfl rfl (zJ rfl rfl rfl (by decide)) ?_); (refine zY.v rfl rfl (zA rfl rfl rfl rfl rfl (by decide)) ?_); refine zY.nil ?_) | (refine zX.isR (id := 4) ?_; refine zX.zV [1, 3, 5, 6, 7, 8, 9, 13] [3, 5, 6, 7, 9] (by repeat' first | exact zZ.nil | apply zZ.p rfl | apply zZ.ptr rfl) (by repeat' first | exact zW.nil | apply zW.boxP rfl rfl) ?_; (refine zY.v rfl rfl (by exact yO rfl rfl rfl (by exact bT (by decide)) rfl (by decide)) ?_); (refine zY.v rfl rfl (zK rfl rfl rfl (by decide)) ?_); refine zY.nil ?_) | (refine zX.isR (id := 5) ?_; refine zX.zV [1, 3, 5, 6, 7, 8, 9, 13] [3, 5, 6, 7, 9] (by repeat' first | exact zZ.nil | apply zZ.p rfl | apply zZ.ptr rfl) (by repeat' first | exact zW.nil | apply zW.boxP rfl rfl) ?_; (refine zY.v rfl rfl (zD rfl rfl rfl (by rfl) (by rfl) rfl (by decide)) ?_); (refine zY.v rfl rfl (zQ rfl rfl rfl (by decide)) ?_); (refine zY.v rfl rfl (zQ rfl rfl rfl (by decide)) ?_); (refine zY.v rfl rfl (zJ rfl rfl rfl (by decide)) ?_); (refine zY.v rfl rfl (zA rfl rfl rfl rfl rfl (by decide)) ?_); (refine zY.v rfl rfl (by exact yU (c1) rfl rfl rfl (by decide)) ?_); (refine zY.v rfl rfl (yD rfl rfl rfl (by decide)) ?_); (refine zY.v rfl rfl (zF rfl rfl rfl rfl (by decide)) ?_); (refine zY.v rfl rfl (zF rfl rfl rfl rfl (by decide)) ?_); (refine zY.w rfl (by exact zB rfl rfl rfl rfl rfl (by rfl) (by exact Nat.le_of_ble_eq_true rfl) rfl rfl) ?_); refine zY.nil ?_) | (refine zX.isR (id := 20) ?_; refine zX.yF [3, 6, 7, 9] [3, 5, 6, 7, 9] (by repeat' first | exact zZ.nil | apply zZ.ptr rfl) (by repeat' first | exact zW.nil | apply zW.boxP rfl rfl) (zX.vU (by kernel_rfl) ?_); repeat' (first | refine xW.many (by rfl) ?_ | refine xB.cons ?_ ?_ | exact xB.nil | refine wE.v rfl rfl rfl (zD rfl rfl rfl (by rfl) (by rfl) rfl (by decide)) ?_ | refine wE.w rfl rfl (by exact zB rfl rfl rfl rfl rfl (by rfl) (by exact Nat.le_of_ble_eq_true rfl) rfl rfl) ?_ | refine xW.fin (by rfl) ?_)) | refine zX.yS rfl (by with_reducible rfl) ?_ | refine zX.block ?_ | refine zX.ret ?_))
  all_goals exact ⟨by first | exact .inl rfl | exact .inr rfl, _, Sub.refl _, .tup (rs := [.cell 6 31, .cell 7 60]) (l := [wM root (r0.set i (d ++ bs, s)) r1, resN 0]) rfl (by decide) (.cons (.cellN rfl rfl (by rfl) (by rfl)) (.cons (.cellN rfl rfl (by rfl) (by rfl)) .nil))⟩
theorem doFail5_fn (t c p q r me root : Int) (ws : List Int) (d : PV) (r0 r1 : List (List Int × Int)) :
    Fn Tryd.prog 15 [wD t c ws root r0 r1, .val (.int .i64 me), accV 5 p q r d, .val (.bool true)] (.tup [wD t c ws root r0 r1, resF]) := by
  have c0 : Fn Tryd.prog 38 [.val (.int .i64 5)] (.p (.val (.bool true))) := isDisk_fn 5
  refine yM Tryd.func15 rfl Tryd.ntmps15 (Nat.le_of_ble_eq_true rfl) ?_
  repeat' ((refine zX.is ?_; first | refine zX.seq ?_ | (refine zX.isR (id := 0) ?_; refine zX.zV [0, 1, 2, 3] [4, 6, 8, 9, 10] (by repeat' first | exact zZ.nil | apply zZ.p rfl) (by repeat' first | exact zW.nil | apply zW.skip) ?_; (refine zY.m rfl rfl (yX rfl rfl rfl (by decide)) ?_); (refine zY.m rfl rfl (yX rfl rfl rfl (by decide)) ?_); (refine zY.m rfl rfl (zG rfl (by decide) rfl (by decide)) ?_); (refine zY.m rfl rfl (zG rfl (by decide) rfl (by decide)) ?_); refine zY.nil ?_) | (refine zX.isR (id := 1) ?_; refine zX.zV [1, 3, 4, 6, 8, 9] [4, 6, 8, 9, 10] (by repeat' first | exact zZ.nil | apply zZ.p rfl | apply zZ.ptr rfl) (by repeat' first | exact zW.nil | apply zW.boxP rfl rfl | apply zW.skip) ?_; (refine zY.m rfl rfl (zG rfl (by decide) rfl (by decide)) ?_); refine zY.nil ?_) | (refine zX.isR (id := 3) ?_; refine zX.zV [1, 3, 4, 6, 8, 9, 10] [4, 6, 8, 9, 10] (by repeat' first | exact zZ.nil | apply zZ.p rfl | apply zZ.ptr rfl) (by repeat' first | exact zW.nil | apply zW.boxP rfl rfl) ?_; all_goals (refine zY.v rfl rfl (zJ rfl rfl rfl (by decide)) ?_); all_goals (refine zY.v rfl rfl (zA rfl rfl rfl rfl rfl (by decide)) ?_); all_goals (refine zY.v rfl rfl (by exact zR (c0) rfl rfl rfl (by decide)) ?_); all_goals (refine zY.v rfl rfl (zQ rfl rfl rfl (by decide)) ?_); all_goals (refine zY.gY rfl rfl (by decide) rfl (by with_reducible rfl) rfl (by decide) (zQ rfl rfl rfl (by decide)) ?_); all_goals (refine zY.v rfl rfl (by exact yZ rfl rfl (by with_reducible rfl) rfl rfl (by decide)) ?_); all_goals (refine zY.v rfl rfl (zK rfl rfl rfl (by decide)) ?_); all_goals (refine zY.nil ?_)) | (refine zX.isR (id := 4) ?_; refine zX.zV [1, 4, 6, 8, 9, 10] [4, 6, 8, 9, 10] (by repeat' first | exact zZ.nil | apply zZ.p rfl | apply zZ.ptr rfl) (by repeat' first | exact zW.nil | apply zW.boxP rfl rfl) ?_; (refine zY.v rfl rfl (zJ rfl rfl rfl (by decide)) ?_); (refine zY.w rfl (by exact zB rfl rfl rfl rfl rfl (by rfl) (by exact Nat.le_of_ble_eq_true rfl) rfl rfl) ?_); refine zY.nil ?_) | (refine zX.isR (id := 10) ?_; refine zX.yF [4, 8, 9, 10] [4, 6, 8, 9, 10] (by repeat' first | exact zZ.nil | apply zZ.ptr rfl) (by repeat' first | exact zW.nil | apply zW.boxP rfl rfl) (zX.vU (by kernel_rfl) ?_); repeat' (first | refine xW.many (by rfl) ?_ | refine xB.cons ?_ ?_ | exact xB.nil | refine wE.v rfl rfl rfl (zD rfl rfl rfl (by rfl) (by rfl) rfl (by decide)) ?_ | refine wE.w rfl rfl (by exact zB rfl rfl rfl rfl rfl (by rfl) (by exact Nat.le_of_ble_eq_true rfl) rfl rfl) ?_ | refine xW.fin (by rfl) ?_)) | refine zX.yS rfl (by with_reducible rfl) ?_ | refine zX.block ?_ | refine zX.ret ?_))
  all_goals exact ⟨by first | exact .inl rfl | exact .inr rfl, _, Sub.refl _, .tup (rs := [.cell 8 33, .cell 9 60]) (l := [wD t c ws root r0 r1, resF]) rfl (by decide) (.cons (.cellN rfl rfl (by rfl) (by rfl)) (.cons (.cellN rfl rfl (by rfl) (by rfl)) .nil))⟩
theorem doDisk50_fn (t c p q r root : Int) (ws : List Int) (r0 r1 : List (List Int × Int)) (i : Nat) (d : List Int) (s : Int) (bs : List Int) (h0 : 0 ≤ root) (hr : root % 2 = 0) (hi : r0[i]? = some (d, s)) (h1 : r0.length ≤ 1000000) (h2 : d.length + bs.length ≤ 1000000) :
    Fn Tryd.prog 15 [wD t c ws root r0 r1, .val (.int .i64 i), accV 5 p q r (.sl (byts bs)), .val (.bool false)] (.tup [wD t c ws root (r0.set i (d ++ bs, s)) r1, resN 0]) := by
  have c0 : Fn Tryd.prog 38 [.val (.int .i64 5)] (.p (.val (.bool true))) := isDisk_fn 5
  have c1 := streams50_fn root r0 r1 i d s p q r bs h0 hr hi h1 h2
  refine yM Tryd.func15 rfl Tryd.ntmps15 (Nat.le_of_ble_eq_true rfl) ?_
  repeat' ((refine zX.is ?_; first | refine zX.seq ?_ | (refine zX.isR (id := 0) ?_; refine zX.zV [0, 1, 2, 3] [4, 6, 8, 9, 10] (by repeat' first | exact zZ.nil | apply zZ.p rfl) (by repeat' first | exact zW.nil | apply zW.skip) ?_; (refine zY.m rfl rfl (yX rfl rfl rfl (by decide)) ?_); (refine zY.m rfl rfl (yX rfl rfl rfl (by decide)) ?_); (refine zY.m rfl rfl (zG rfl (by decide) rfl (by decide)) ?_); (refine zY.m rfl rfl (zG rfl (by decide) rfl (by decide)) ?_); refine zY.nil ?_) | (refine zX.isR (id := 1) ?_; refine zX.zV [1, 3, 4, 6, 8, 9] [4, 6, 8, 9, 10] (by repeat' first | exact zZ.nil | apply zZ.p rfl | apply zZ.ptr rfl) (by repeat' first | exact zW.nil | apply zW.boxP rfl rfl | apply zW.skip) ?_; (refine zY.m rfl rfl (zG rfl (by decide) rfl (by decide)) ?_); refine zY.nil ?_) | (refine zX.isR (id := 3) ?_; refine zX.zV [1, 3, 4, 6, 8, 9, 10] [4, 6, 8, 9, 10] (by repeat' first | exact zZ.nil | apply zZ.p rfl | apply zZ.ptr rfl) (by repeat' first | exact zW.nil | apply zW.boxP rfl rfl) ?_; all_goals (refine zY.v rfl rfl (zJ rfl rfl rfl (by decide)) ?_); all_goals (refine zY.v rfl rfl (zA rfl rfl rfl rfl rfl (by decide)) ?_); all_goals (refine zY.v rfl rfl (by exact zR (c0) rfl rfl rfl (by decide)) ?_); all_goals (refine zY.v rfl rfl (zQ rfl rfl rfl (by decide)) ?_); all_goals (refine zY.gY rfl rfl (by decide) rfl (by with_reducible rfl) rfl (by decide) (zQ rfl rfl rfl (by decide)) ?_); all_goals (refine zY.v rfl rfl (by exact yZ rfl rfl (by with_reducible rfl) rfl rfl (by decide)) ?_); all_goals (refine zY.v rfl rfl (zK rfl rfl rfl (by decide)) ?_); all_goals (refine zY.nil ?_)) | (refine zX.isR (id := 5) ?_; refine zX.zV [1, 4, 6, 8, 9, 10] [4, 6, 8, 9, 10] (by repeat' first | exact zZ.nil | apply zZ.p rfl | apply zZ.ptr rfl) (by repeat' first | exact zW.nil | apply zW.boxP rfl rfl) ?_; (refine zY.v rfl rfl (zJ rfl rfl rfl (by decide)) ?_); (refine zY.v rfl rfl (zA rfl rfl rfl rfl rfl (by decide)) ?_); (refine zY.v rfl rfl (by exact zR (c0) rfl rfl rfl (by decide)) ?_); (refine zY.v rfl rfl (zK rfl rfl rfl (by decide)) ?_); refine zY.nil ?_) | (refine zX.isR (id := 6) ?_; refine zX.zV [1, 4, 6, 8, 9, 10] [4, 6, 8, 9, 10] (by repeat' first | exact zZ.nil | apply zZ.p rfl | apply zZ.ptr rfl) (by repeat' first | exact zW.nil | apply zW.boxP rfl rfl) ?_; (refine zY.v rfl rfl (zJ rfl rfl rfl (by decide)) ?_); (refine zY.v rfl rfl (zD rfl rfl rfl (by rfl) (by rfl) rfl (by decide)) ?_); (refine zY.v rfl rfl (zQ rfl rfl rfl (by decide)) ?_); (refine zY.v rfl rfl (zD rfl rfl rfl (by rfl) (by rfl) rfl (by decide)) ?_); (refine zY.v rfl rfl (by exact yU (c1) rfl rfl rfl (by decide)) ?_); (refine zY.v rfl rfl (yD rfl rfl rfl (by decide)) ?_); (refine zY.v rfl rfl (zF rfl rfl rfl rfl (by decide)) ?_); (refine zY.v rfl rfl (zF rfl rfl rfl rfl (by decide)) ?_); (refine zY.v rfl rfl (zJ rfl rfl rfl (by decide)) ?_); (refine zY.w rfl (by exact zB rfl rfl rfl rfl rfl (by rfl) (by exact Nat.le_of_ble_eq_true rfl) rfl rfl) ?_); (refine zY.w rfl (by exact zB rfl rfl rfl rfl rfl (by rfl) (by exact Nat.le_of_ble_eq_true rfl) rfl rfl) ?_); refine zY.nil ?_) | (refine zX.isR (id := 10) ?_; refine zX.yF [4, 8, 9, 10] [4, 6, 8, 9, 10] (by repeat' first | exact zZ.nil | apply zZ.ptr rfl) (by repeat' first | exact zW.nil | apply zW.boxP rfl rfl) (zX.vU (by kernel_rfl) ?_); repeat' (first | refine xW.many (by rfl) ?_ | refine xB.cons ?_ ?_ | exact xB.nil | refine wE.v rfl rfl rfl (zD rfl rfl rfl (by rfl) (by rfl) rfl (by decide)) ?_ | refine wE.w rfl rfl (by exact zB rfl rfl rfl rfl rfl (by rfl) (by exact Nat.le_of_ble_eq_true rfl) rfl rfl) ?_ | refine xW.fin (by rfl) ?_)) | refine zX.yS rfl (by with_reducible rfl) ?_ | refine zX.yN rfl (by with_reducible rfl) ?_ | refine zX.block ?_ | refine zX.ret ?_))
  all_goals exact ⟨by first | exact .inl rfl | exact .inr rfl, _, Sub.refl _, .tup (rs := [.cell 8 33, .cell 9 60]) (l := [wD t c ws root (r0.set i (d ++ bs, s)) r1, resN 0]) rfl (by decide) (.cons (.cellN rfl rfl (by rfl) (by rfl)) (.cons (.cellN rfl rfl (by rfl) (by rfl)) .nil))⟩
theorem streams60_fn (root : Int) (r0 r1 : List (List Int × Int)) (i : Nat) (d : List Int) (s p q r : Int) (x : PV) (h0 : 0 ≤ root) (hr : root % 2 = 0) (hi : r0[i]? = some (d, s)) (h1 : r0.length ≤ 1000000) :
    Fn Tryd.prog 39 [wM root r0 r1, .val (.int .i64 i), accV 6 p q r (x)] (.tup [wM root (r0.set i (d, d.length)) r1, resN 0]) := by
  have c0 : Fn Tryd.prog 65 [wM root r0 r1] (.p (.val (.int .i64 0))) := hr ▸ row_fn root (.sl (strs r0)) (.sl (strs r1)) h0
  have c1 := diskSync0_fn root r0 r1 i d s hi h1
  refine yM Tryd.func39 rfl Tryd.ntmps39 (Nat.le_of_ble_eq_true rfl) ?_
  repeat' ((refine zX.is ?_; first | refine zX.seq ?_ | (refine zX.isR (id := 0) ?_; refine zX.zV [0, 1, 2] [3, 5, 6, 7, 9] (by repeat' first | exact zZ.nil | apply zZ.p rfl) (by repeat' first | exact zW.nil | apply zW.skip) ?_; (refine zY.m rfl rfl (yX rfl rfl rfl (by decide)) ?_); (refine zY.m rfl rfl (yX rfl rfl rfl (by decide)) ?_); (refine zY.m rfl rfl (zG rfl (by decide) rfl (by decide)) ?_); (refine zY.m rfl rfl (zG rfl (by decide) rfl (by decide)) ?_); refine zY.nil ?_) | (refine zX.isR (id := 1) ?_; refine zX.zV [1, 3, 5, 6, 7] [3, 5, 6, 7, 9] (by repeat' first | exact zZ.nil | apply zZ.p rfl | apply zZ.ptr rfl) (by repeat' first | exact zW.nil | apply zW.boxP rfl rfl | apply zW.skip) ?_; (refine zY.v rfl rfl (zD rfl rfl rfl (by rfl) (by rfl) rfl (by decide)) ?_); (refine zY.v rfl rfl (by exact zR (c0) rfl rfl rfl (by decide)) ?_); (refine zY.v rfl rfl (zK rfl rfl rfl (by decide)) ?_); refine zY.nil ?_) | (refine zX.isR (id := 2) ?_; refine zX.zV [1, 3, 5, 6, 7, 8] [3, 5, 6, 7, 9] (by repeat' first | exact zZ.nil | apply zZ.p rfl | apply zZ.ptr rfl) (by repeat' first | exact zW.nil | apply zW.boxP rfl rfl | apply zW.skip) ?_; (refine zY.m rfl rfl (zG rfl (by decide) rfl (by decide)) ?_); refine zY.nil ?_) | (refine zX.isR (id := 3) ?_; refine zX.zV [1, 3, 5, 6, 7, 8, 9] [3, 5, 6, 7, 9] (by repeat' first | exact zZ.nil | apply zZ.p rfl | apply zZ.ptr rfl) (by repeat' first | exact zW.nil | apply zW.boxP rfl rfl) ?_; (refine zY.v rfl rfl (zJ rfl rfl rfl (by decide)) ?_); (refine zY.v rfl rfl (zA rfl rfl rfl rfl rfl (by decide)) ?_); refine zY.nil ?_) | (refine zX.isR (id := 4) ?_; refine zX.zV [1, 3, 5, 6, 7, 8, 9, 13] [3, 5, 6, 7, 9] (by repeat' first | exact zZ.nil | apply zZ.p rfl | apply zZ.ptr rfl) (by repeat' first | exact zW.nil | apply zW.boxP rfl rfl) ?_; (refine zY.v rfl rfl (by exact yO rfl rfl rfl (by exact bF (by decide)) rfl (by decide)) ?_); (refine zY.v rfl rfl (zK rfl rfl rfl (by decide)) ?_); refine zY.nil ?_) | (refine zX.isR (id := 6) ?_; refine zX.zV [1, 3, 5, 6, 7, 8, 9, 13] [3, 5, 6, 7, 9] (by repeat' first | exact zZ.nil | apply zZ.p rfl | apply zZ.ptr rfl) (by repeat' first | exact zW.nil | apply zW.boxP rfl rfl) ?_; (refine zY.v rfl rfl (by exact yO rfl rfl rfl (by exact bT (by decide)) rfl (by decide)) ?_); (refine zY.v rfl rfl (zK rfl rfl rfl (by decide)) ?_); refine zY.nil ?_) | (refine zX.isR (id := 7) ?_; refine zX.zV [1, 3, 5, 6, 7, 8, 9, 13] [3, 5, 6, 7, 9] (by repeat' first | exact zZ.nil | apply zZ.p rfl | apply zZ.ptr rfl) (by repeat' first | exact zW.nil | apply zW.boxP rfl rfl) ?_; (refine zY.v rfl rfl (zD rfl rfl rfl (by rfl) (by rfl) rfl (by decide)) ?_); (refine zY.v rfl rfl (zQ rfl rfl rfl (by decide)) ?_); (refine zY.v rfl rfl (zQ rfl rfl rfl (by decide)) ?_); (refine zY.v rfl rfl (by exact yU (c1) rfl rfl rfl (by decide)) ?_); (refine zY.v rfl rfl (yD rfl rfl rfl (by decide)) ?_); (refine zY.v rfl rfl (zF rfl rfl rfl rfl (by decide)) ?_); (refine zY.v rfl rfl (zF rfl rfl rfl rfl (by decide)) ?_); (refine zY.w rfl (by exact zB rfl rfl rfl rfl rfl (by rfl) (by exact Nat.le_of_ble_eq_true rfl) rfl rfl) ?_); refine zY.nil ?_) | (refine zX.isR (id := 20) ?_; refine zX.yF [3, 6, 7, 9] [3, 5, 6, 7, 9] (by repeat' first | exact zZ.nil | apply zZ.ptr rfl) (by repeat' first | exact zW.nil | apply zW.boxP rfl rfl) (zX.vU (by kernel_rfl) ?_); repeat' (first | refine xW.many (by rfl) ?_ | refine xB.cons ?_ ?_ | exact xB.nil | refine wE.v rfl rfl rfl (zD rfl rfl rfl (by rfl) (by rfl) rfl (by decide)) ?_ | refine wE.w rfl rfl (by exact zB rfl rfl rfl rfl rfl (by rfl) (by exact Nat.le_of_ble_eq_true rfl) rfl rfl) ?_ | refine xW.fin (by rfl) ?_)) | refine zX.yS rfl (by with_reducible rfl) ?_ | refine zX.yN rfl (by with_reducible rfl) ?_ | refine zX.block ?_ | refine zX.ret ?_))
  all_goals exact ⟨by first | exact .inl rfl | exact .inr rfl, _, Sub.refl _, .tup (rs := [.cell 6 31, .cell 7 60]) (l := [wM root (r0.set i (d, d.length)) r1, resN 0]) rfl (by decide) (.cons (.cellN rfl rfl (by rfl) (by rfl)) (.cons (.cellN rfl rfl (by rfl) (by rfl)) .nil))⟩
theorem doFail6_fn (t c p q r me root : Int) (ws : List Int) (d : PV) (r0 r1 : List (List Int × Int)) :
    Fn Tryd.prog 15 [wD t c ws root r0 r1, .val (.int .i64 me), accV 6 p q r d, .val (.bool true)] (.tup [wD t c ws root r0 r1, resF]) := by
  have c0 : Fn Tryd.prog 38 [.val (.int .i64 6)] (.p (.val (.bool true))) := isDisk_fn 6
  refine yM Tryd.func15 rfl Tryd.ntmps15 (Nat.le_of_ble_eq_true rfl) ?_
  repeat' ((refine zX.is ?_; first | refine zX.seq ?_ | (refine zX.isR (id := 0) ?_; refine zX.zV [0, 1, 2, 3] [4, 6, 8, 9, 10] (by repeat' first | exact zZ.nil | apply zZ.p rfl) (by repeat' first | exact zW.nil | apply zW.skip) ?_; (refine zY.m rfl rfl (yX rfl rfl rfl (by decide)) ?_); (refine zY.m rfl rfl (yX rfl rfl rfl (by decide)) ?_); (refine zY.m rfl rfl (zG rfl (by decide) rfl (by decide)) ?_); (refine zY.m rfl rfl (zG rfl (by decide) rfl (by decide)) ?_); refine zY.nil ?_) | (refine zX.isR (id := 1) ?_; refine zX.zV [1, 3, 4, 6, 8, 9] [4, 6, 8, 9, 10] (by repeat' first | exact zZ.nil | apply zZ.p rfl | apply zZ.ptr rfl) (by repeat' first | exact zW.nil | apply zW.boxP rfl rfl | apply zW.skip) ?_; (refine zY.m rfl rfl (zG rfl (by decide) rfl (by decide)) ?_); refine zY.nil ?_) | (refine zX.isR (id := 3) ?_; refine zX.zV [1, 3, 4, 6, 8, 9, 10] [4, 6, 8, 9, 10] (by repeat' first | exact zZ.nil | apply zZ.p rfl | apply zZ.ptr rfl) (by repeat' first | exact zW.nil | apply zW.boxP rfl rfl) ?_; all_goals (refine zY.v rfl rfl (zJ rfl rfl rfl (by decide)) ?_); all_goals (refine zY.v rfl rfl (zA rfl rfl rfl rfl rfl (by decide)) ?_); all_goals (refine zY.v rfl rfl (by exact zR (c0) rfl rfl rfl (by decide)) ?_); all_goals (refine zY.v rfl rfl (zQ rfl rfl rfl (by decide)) ?_); all_goals (refine zY.gY rfl rfl (by decide) rfl (by with_reducible rfl) rfl (by decide) (zQ rfl rfl rfl (by decide)) ?_); all_goals (refine zY.v rfl rfl (by exact yZ rfl rfl (by with_reducible rfl) rfl rfl (by decide)) ?_); all_goals (refine zY.v rfl rfl (zK rfl rfl rfl (by decide)) ?_); all_goals (refine zY.nil ?_)) | (refine zX.isR (id := 4) ?_; refine zX.zV [1, 4, 6, 8, 9, 10] [4, 6, 8, 9, 10] (by repeat' first | exact zZ.nil | apply zZ.p rfl | apply zZ.ptr rfl) (by repeat' first | exact zW.nil | apply zW.boxP rfl rfl) ?_; (refine zY.v rfl rfl (zJ rfl rfl rfl (by decide)) ?_); (refine zY.w rfl (by exact zB rfl rfl rfl rfl rfl (by rfl) (by exact Nat.le_of_ble_eq_true rfl) rfl rfl) ?_); refine zY.nil ?_) | (refine zX.isR (id := 10) ?_; refine zX.yF [4, 8, 9, 10] [4, 6, 8, 9, 10] (by repeat' first | exact zZ.nil | apply zZ.ptr rfl) (by repeat' first | exact zW.nil | apply zW.boxP rfl rfl) (zX.vU (by kernel_rfl) ?_); repeat' (first | refine xW.many (by rfl) ?_ | refine xB.cons ?_ ?_ | exact xB.nil | refine wE.v rfl rfl rfl (zD rfl rfl rfl (by rfl) (by rfl) rfl (by decide)) ?_ | refine wE.w rfl rfl (by exact zB rfl rfl rfl rfl rfl (by rfl) (by exact Nat.le_of_ble_eq_true rfl) rfl rfl) ?_ | refine xW.fin (by rfl) ?_)) | refine zX.yS rfl (by with_reducible rfl) ?_ | refine zX.block ?_ | refine zX.ret ?_))
  all_goals exact ⟨by first | exact .inl rfl | exact .inr rfl, _, Sub.refl _, .tup (rs := [.cell 8 33, .cell 9 60]) (l := [wD t c ws root r0 r1, resF]) rfl (by decide) (.cons (.cellN rfl rfl (by rfl) (by rfl)) (.cons (.cellN rfl rfl (by rfl) (by rfl)) .nil))⟩
theorem doDisk60_fn (t c p q r root : Int) (ws : List Int) (r0 r1 : List (List Int × Int)) (i : Nat) (d : List Int) (s : Int) (x : PV) (h0 : 0 ≤ root) (hr : root % 2 = 0) (hi : r0[i]? = some (d, s)) (h1 : r0.length ≤ 1000000) :
    Fn Tryd.prog 15 [wD t c ws root r0 r1, .val (.int .i64 i), accV 6 p q r (x), .val (.bool false)] (.tup [wD t c ws root (r0.set i (d, d.length)) r1, resN 0]) := by
  have c0 : Fn Tryd.prog 38 [.val (.int .i64 6)] (.p (.val (.bool true))) := isDisk_fn 6
  have c1 := streams60_fn root r0 r1 i d s p q r x h0 hr hi h1
  refine yM Tryd.func15 rfl Tryd.ntmps15 (Nat.le_of_ble_eq_true rfl) ?_
  repeat' ((refine zX.is ?_; first | refine zX.seq ?_ | (refine zX.isR (id := 0) ?_; refine zX.zV [0, 1, 2, 3] [4, 6, 8, 9, 10] (by repeat' first | exact zZ.nil | apply zZ.p rfl) (by repeat' first | exact zW.nil | apply zW.skip) ?_; (refine zY.m rfl rfl (yX rfl rfl rfl (by decide)) ?_); (refine zY.m rfl rfl (yX rfl rfl rfl (by decide)) ?_); (refine zY.m rfl rfl (zG rfl (by decide) rfl (by decide)) ?_); (refine zY.m rfl rfl (zG rfl (by decide) rfl (by decide)) ?_); refine zY.nil ?_) | (refine zX.isR (id := 1) ?_; refine zX.zV [1, 3, 4, 6, 8, 9] [4, 6, 8, 9, 10] (by repeat' first | exact zZ.nil | apply zZ.p rfl | apply zZ.ptr rfl) (by repeat' first | exact zW.nil | apply zW.boxP rfl rfl | apply zW.skip) ?_; (refine zY.m rfl rfl (zG rfl (by decide) rfl (by decide)) ?_); refine zY.nil ?_) | (refine zX.isR (id := 3) ?_; refine zX.zV [1, 3, 4, 6, 8, 9, 10] [4, 6, 8, 9, 10] (by repeat' first | exact zZ.nil | apply zZ.p rfl | apply zZ.ptr rfl) (by repeat' first | exact zW.nil | apply zW.boxP rfl rfl) ?_; all_goals (refine zY.v rfl rfl (zJ rfl rfl rfl (by decide)) ?_); all_goals (refine zY.v rfl rfl (zA rfl rfl rfl rfl rfl (by decide)) ?_); all_goals (refine zY.v rfl rfl (by exact zR (c0) rfl rfl rfl (by decide)) ?_); all_goals (refine zY.v rfl rfl (zQ rfl rfl rfl (by decide)) ?_); all_goals (refine zY.gY rfl rfl (by decide) rfl (by with_reducible rfl) rfl (by decide) (zQ rfl rfl rfl (by decide)) ?_); all_goals (refine zY.v rfl rfl (by exact yZ rfl rfl (by with_reducible rfl) rfl rfl (by decide)) ?_); all_goals (refine zY.v rfl rfl (zK rfl rfl rfl (by decide)) ?_); all_goals (refine zY.nil ?_)) | (refine zX.isR (id := 5) ?_; refine zX.zV [1, 4, 6, 8, 9, 10] [4, 6, 8, 9, 10] (by repeat' first | exact zZ.nil | apply zZ.p rfl | apply zZ.ptr rfl) (by repeat' first | exact zW.nil | apply zW.boxP rfl rfl) ?_; (refine zY.v rfl rfl (zJ rfl rfl rfl (by decide)) ?_); (refine zY.v rfl rfl (zA rfl rfl rfl rfl rfl (by decide)) ?_); (refine zY.v rfl rfl (by exact zR (c0) rfl rfl rfl (by decide)) ?_); (refine zY.v rfl rfl (zK rfl rfl rfl (by decide)) ?_); refine zY.nil ?_) | (refine zX.isR (id := 6) ?_; refine zX.zV [1, 4, 6, 8, 9, 10] [4, 6, 8, 9, 10] (by repeat' first | exact zZ.nil | apply zZ.p rfl | apply zZ.ptr rfl) (by repeat' first | exact zW.nil | apply zW.boxP rfl rfl) ?_; (refine zY.v rfl rfl (zJ rfl rfl rfl (by decide)) ?_); (refine zY.v rfl rfl (zD rfl rfl rfl (by rfl) (by rfl) rfl (by decide)) ?_); (refine zY.v rfl rfl (zQ rfl rfl rfl (by decide)) ?_); (refine zY.v rfl rfl (zD rfl rfl rfl (by rfl) (by rfl) rfl (by decide)) ?_); (refine zY.v rfl rfl (by exact yU (c1) rfl rfl rfl (by decide)) ?_); (refine zY.v rfl rfl (yD rfl rfl rfl (by decide)) ?_); (refine zY.v rfl rfl (zF rfl rfl rfl rfl (by decide)) ?_); (refine zY.v rfl rfl (zF rfl rfl rfl rfl (by decide)) ?_); (refine zY.v rfl rfl (zJ rfl rfl rfl (by decide)) ?_); (refine zY.w rfl (by exact zB rfl rfl rfl rfl rfl (by rfl) (by exact Nat.le_of_ble_eq_true rfl) rfl rfl) ?_); (refine zY.w rfl (by exact zB rfl rfl rfl rfl rfl (by rfl) (by exact Nat.le_of_ble_eq_true rfl) rfl rfl) ?_); refine zY.nil ?_) | (refine zX.isR (id := 10) ?_; refine zX.yF [4, 8, 9, 10] [4, 6, 8, 9, 10] (by repeat' first | exact zZ.nil | apply zZ.ptr rfl) (by repeat' first | exact zW.nil | apply zW.boxP rfl rfl) (zX.vU (by kernel_rfl) ?_); repeat' (first | refine xW.many (by rfl) ?_ | refine xB.cons ?_ ?_ | exact xB.nil | refine wE.v rfl rfl rfl (zD rfl rfl rfl (by rfl) (by rfl) rfl (by decide)) ?_ | refine wE.w rfl rfl (by exact zB rfl rfl rfl rfl rfl (by rfl) (by exact Nat.le_of_ble_eq_true rfl) rfl rfl) ?_ | refine xW.fin (by rfl) ?_)) | refine zX.yS rfl (by with_reducible rfl) ?_ | refine zX.yN rfl (by with_reducible rfl) ?_ | refine zX.block ?_ | refine zX.ret ?_))
  all_goals exact ⟨by first | exact .inl rfl | exact .inr rfl, _, Sub.refl _, .tup (rs := [.cell 8 33, .cell 9 60]) (l := [wD t c ws root (r0.set i (d, d.length)) r1, resN 0]) rfl (by decide) (.cons (.cellN rfl rfl (by rfl) (by rfl)) (.cons (.cellN rfl rfl (by rfl) (by rfl)) .nil))⟩
theorem doWord_fn (t c kd a b old me root : Int) (hkd : 0 ≤ kd ∧ kd ≤ 4) (i : Nat) (ws : List Int) (d : PV) (r0 r1 : List (List Int × Int)) (fails : Bool) (hi : ws[i]? = some old) (h1 : ws.length ≤ 1000000) :
    Fn Tryd.prog 15 [wD t c ws root r0 r1, .val (.int .i64 me), accV kd i a b d, .val (.bool fails)] (.tup [wD t c (ws.set i (turnR kd old a b).2) root r0 r1, resN (turnR kd old a b).1]) := by
  have c0 : Fn Tryd.prog 38 [.val (.int .i64 kd)] (.p (.val (.bool false))) := by
    have e : (decide (5 ≤ kd) && decide (kd ≤ 12)) = false := by rw [decide_eq_false (show ¬5 ≤ kd by omega)]; rfl
    exact e ▸ isDisk_fn kd
  have c1 := words_fn t c kd a b old hkd i ws d hi h1
  have g1 : decide (kd = 13) = false := decide_eq_false (by omega)
  refine yM Tryd.func15 rfl Tryd.ntmps15 (Nat.le_of_ble_eq_true rfl) ?_
  repeat' ((refine zX.is ?_; first | refine zX.seq ?_ | (refine zX.isR (id := 0) ?_; refine zX.zV [0, 1, 2, 3] [4, 6, 8, 9, 10] (by repeat' first | exact zZ.nil | apply zZ.p rfl) (by repeat' first | exact zW.nil | apply zW.skip) ?_; (refine zY.m rfl rfl (yX rfl rfl rfl (by decide)) ?_); (refine zY.m rfl rfl (yX rfl rfl rfl (by decide)) ?_); (refine zY.m rfl rfl (zG rfl (by decide) rfl (by decide)) ?_); (refine zY.m rfl rfl (zG rfl (by decide) rfl (by decide)) ?_); refine zY.nil ?_) | (refine zX.isR (id := 1) ?_; refine zX.zV [1, 3, 4, 6, 8, 9] [4, 6, 8, 9, 10] (by repeat' first | exact zZ.nil | apply zZ.p rfl | apply zZ.ptr rfl) (by repeat' first | exact zW.nil | apply zW.boxP rfl rfl | apply zW.skip) ?_; (refine zY.m rfl rfl (zG rfl (by decide) rfl (by decide)) ?_); refine zY.nil ?_) | (refine zX.isR (id := 3) ?_; refine zX.zV [1, 3, 4, 6, 8, 9, 10] [4, 6, 8, 9, 10] (by repeat' first | exact zZ.nil | apply zZ.p rfl | apply zZ.ptr rfl) (by repeat' first | exact zW.nil | apply zW.boxP rfl rfl) ?_; all_goals (refine zY.v rfl rfl (zJ rfl rfl rfl (by decide)) ?_); all_goals (refine zY.v rfl rfl (zA rfl rfl rfl (by rfl) rfl (by decide)) ?_); all_goals (refine zY.v rfl rfl (by exact zR (c0) rfl rfl rfl (by decide)) ?_); all_goals (refine zY.v rfl rfl (zQ rfl rfl rfl (by decide)) ?_); all_goals (refine zY.gnT rfl rfl (by decide) rfl (by with_reducible rfl) rfl (by decide) ?_); all_goals (refine zY.v rfl rfl (by exact yC rfl rfl (by with_reducible rfl) rfl rfl (by decide)) ?_); all_goals (refine zY.v rfl rfl (zK rfl rfl rfl (by decide)) ?_); all_goals (refine zY.nil ?_)) | (refine zX.isR (id := 5) ?_; refine zX.zV [1, 4, 6, 8, 9, 10] [4, 6, 8, 9, 10] (by repeat' first | exact zZ.nil | apply zZ.p rfl | apply zZ.ptr rfl) (by repeat' first | exact zW.nil | apply zW.boxP rfl rfl) ?_; (refine zY.v rfl rfl (zJ rfl rfl rfl (by decide)) ?_); (refine zY.v rfl rfl (zA rfl rfl rfl (by rfl) rfl (by decide)) ?_); (refine zY.v rfl rfl (by exact zR (c0) rfl rfl rfl (by decide)) ?_); (refine zY.v rfl rfl (zK rfl rfl rfl (by decide)) ?_); refine zY.nil ?_) | (refine zX.isR (id := 7) ?_; refine zX.zV [4, 6, 8, 9, 10] [4, 6, 8, 9, 10] (by repeat' first | exact zZ.nil | apply zZ.ptr rfl) (by repeat' first | exact zW.nil | apply zW.boxP rfl rfl) ?_; (refine zY.v rfl rfl (zJ rfl rfl rfl (by decide)) ?_); (refine zY.v rfl rfl (zA rfl rfl rfl (by rfl) rfl (by decide)) ?_); (refine zY.v rfl rfl (by exact yO rfl rfl rfl (by exact g1) rfl (by decide)) ?_); (refine zY.v rfl rfl (zK rfl rfl rfl (by decide)) ?_); refine zY.nil ?_) | (refine zX.isR (id := 2) ?_; refine zX.zV [4, 6, 8, 9, 10] [4, 6, 8, 9, 10] (by repeat' first | exact zZ.nil | apply zZ.ptr rfl) (by repeat' first | exact zW.nil | apply zW.boxP rfl rfl) ?_; (refine zY.v rfl rfl (zJ rfl rfl rfl (by decide)) ?_); (refine zY.v rfl rfl (zD rfl rfl rfl (by rfl) (by rfl) rfl (by decide)) ?_); (refine zY.v rfl rfl (zD rfl rfl rfl (by rfl) (by rfl) rfl (by decide)) ?_); (refine zY.v rfl rfl (by exact yU (c1) rfl rfl rfl (by decide)) ?_); (refine zY.v rfl rfl (yD rfl rfl rfl (by decide)) ?_); (refine zY.v rfl rfl (zF rfl rfl rfl rfl (by decide)) ?_); (refine zY.v rfl rfl (zF rfl rfl rfl rfl (by decide)) ?_); (refine zY.v rfl rfl (zJ rfl rfl rfl (by decide)) ?_); (refine zY.w rfl (by exact zB rfl rfl rfl rfl rfl (by rfl) (by exact Nat.le_of_ble_eq_true rfl) rfl rfl) ?_); (refine zY.w rfl (by exact zB rfl rfl rfl rfl rfl (by rfl) (by exact Nat.le_of_ble_eq_true rfl) rfl rfl) ?_); refine zY.nil ?_) | (refine zX.isR (id := 10) ?_; refine zX.yF [4, 8, 9, 10] [4, 6, 8, 9, 10] (by repeat' first | exact zZ.nil | apply zZ.ptr rfl) (by repeat' first | exact zW.nil | apply zW.boxP rfl rfl) (zX.vU (by kernel_rfl) ?_); repeat' (first | refine xW.many (by rfl) ?_ | refine xB.cons ?_ ?_ | exact xB.nil | refine wE.v rfl rfl rfl (zD rfl rfl rfl (by rfl) (by rfl) rfl (by decide)) ?_ | refine wE.w rfl rfl (by exact zB rfl rfl rfl rfl rfl (by rfl) (by exact Nat.le_of_ble_eq_true rfl) rfl rfl) ?_ | refine xW.fin (by rfl) ?_)) | refine zX.yN rfl (by first | assumption | with_reducible rfl) ?_ | refine zX.block ?_ | refine zX.ret ?_))
  all_goals exact ⟨by first | exact .inl rfl | exact .inr rfl, _, Sub.refl _, .tup (rs := [.cell 8 33, .cell 9 60]) (l := [wD t c (ws.set i (turnR kd old a b).2) root r0 r1, resN (turnR kd old a b).1]) rfl (by decide) (.cons (.cellN rfl rfl (by rfl) (by rfl)) (.cons (.cellN rfl rfl (by rfl) (by rfl)) .nil))⟩
theorem doOut_fn (t c kd cell a b me root : Int) (hkd : 0 ≤ kd ∧ kd ≤ 4) (ws : List Int) (d : PV) (r0 r1 : List (List Int × Int)) (fails : Bool) (hi : cell < 0 ∨ (ws.length : Int) ≤ cell) :
    Fn Tryd.prog 15 [wD t c ws root r0 r1, .val (.int .i64 me), accV kd cell a b d, .val (.bool fails)] (.tup [wD t c ws root r0 r1, resN 0]) := by
  have c0 : Fn Tryd.prog 38 [.val (.int .i64 kd)] (.p (.val (.bool false))) := by
    have e : (decide (5 ≤ kd) && decide (kd ≤ 12)) = false := by rw [decide_eq_false (show ¬5 ≤ kd by omega)]; rfl
    exact e ▸ isDisk_fn kd
  have c1 := wordsOut_fn t c kd cell a b ws d hi
  have g1 : decide (kd = 13) = false := decide_eq_false (by omega)
  refine yM Tryd.func15 rfl Tryd.ntmps15 (Nat.le_of_ble_eq_true rfl) ?_
  repeat' ((refine zX.is ?_; first | refine zX.seq ?_ | (refine zX.isR (id := 0) ?_; refine zX.zV [0, 1, 2, 3] [4, 6, 8, 9, 10] (by repeat' first | exact zZ.nil | apply zZ.p rfl) (by repeat' first | exact zW.nil | apply zW.skip) ?_; (refine zY.m rfl rfl (yX rfl rfl rfl (by decide)) ?_); (refine zY.m rfl rfl (yX rfl rfl rfl (by decide)) ?_); (refine zY.m rfl rfl (zG rfl (by decide) rfl (by decide)) ?_); (refine zY.m rfl rfl (zG rfl (by decide) rfl (by decide)) ?_); refine zY.nil ?_) | (refine zX.isR (id := 1) ?_; refine zX.zV [1, 3, 4, 6, 8, 9] [4, 6, 8, 9, 10] (by repeat' first | exact zZ.nil | apply zZ.p rfl | apply zZ.ptr rfl) (by repeat' first | exact zW.nil | apply zW.boxP rfl rfl | apply zW.skip) ?_; (refine zY.m rfl rfl (zG rfl (by decide) rfl (by decide)) ?_); refine zY.nil ?_) | (refine zX.isR (id := 3) ?_; refine zX.zV [1, 3, 4, 6, 8, 9, 10] [4, 6, 8, 9, 10] (by repeat' first | exact zZ.nil | apply zZ.p rfl | apply zZ.ptr rfl) (by repeat' first | exact zW.nil | apply zW.boxP rfl rfl) ?_; all_goals (refine zY.v rfl rfl (zJ rfl rfl rfl (by decide)) ?_); all_goals (refine zY.v rfl rfl (zA rfl rfl rfl (by rfl) rfl (by decide)) ?_); all_goals (refine zY.v rfl rfl (by exact zR (c0) rfl rfl rfl (by decide)) ?_); all_goals (refine zY.v rfl rfl (zQ rfl rfl rfl (by decide)) ?_); all_goals (refine zY.gnT rfl rfl (by decide) rfl (by with_reducible rfl) rfl (by decide) ?_); all_goals (refine zY.v rfl rfl (by exact yC rfl rfl (by with_reducible rfl) rfl rfl (by decide)) ?_); all_goals (refine zY.v rfl rfl (zK rfl rfl rfl (by decide)) ?_); all_goals (refine zY.nil ?_)) | (refine zX.isR (id := 5) ?_; refine zX.zV [1, 4, 6, 8, 9, 10] [4, 6, 8, 9, 10] (by repeat' first | exact zZ.nil | apply zZ.p rfl | apply zZ.ptr rfl) (by repeat' first | exact zW.nil | apply zW.boxP rfl rfl) ?_; (refine zY.v rfl rfl (zJ rfl rfl rfl (by decide)) ?_); (refine zY.v rfl rfl (zA rfl rfl rfl (by rfl) rfl (by decide)) ?_); (refine zY.v rfl rfl (by exact zR (c0) rfl rfl rfl (by decide)) ?_); (refine zY.v rfl rfl (zK rfl rfl rfl (by decide)) ?_); refine zY.nil ?_) | (refine zX.isR (id := 7) ?_; refine zX.zV [4, 6, 8, 9, 10] [4, 6, 8, 9, 10] (by repeat' first | exact zZ.nil | apply zZ.ptr rfl) (by repeat' first | exact zW.nil | apply zW.boxP rfl rfl) ?_; (refine zY.v rfl rfl (zJ rfl rfl rfl (by decide)) ?_); (refine zY.v rfl rfl (zA rfl rfl rfl (by rfl) rfl (by decide)) ?_); (refine zY.v rfl rfl (by exact yO rfl rfl rfl (by exact g1) rfl (by decide)) ?_); (refine zY.v rfl rfl (zK rfl rfl rfl (by decide)) ?_); refine zY.nil ?_) | (refine zX.isR (id := 2) ?_; refine zX.zV [4, 6, 8, 9, 10] [4, 6, 8, 9, 10] (by repeat' first | exact zZ.nil | apply zZ.ptr rfl) (by repeat' first | exact zW.nil | apply zW.boxP rfl rfl) ?_; (refine zY.v rfl rfl (zJ rfl rfl rfl (by decide)) ?_); (refine zY.v rfl rfl (zD rfl rfl rfl (by rfl) (by rfl) rfl (by decide)) ?_); (refine zY.v rfl rfl (zD rfl rfl rfl (by rfl) (by rfl) rfl (by decide)) ?_); (refine zY.v rfl rfl (by exact yU (c1) rfl rfl rfl (by decide)) ?_); (refine zY.v rfl rfl (yD rfl rfl rfl (by decide)) ?_); (refine zY.v rfl rfl (zF rfl rfl rfl rfl (by decide)) ?_); (refine zY.v rfl rfl (zF rfl rfl rfl rfl (by decide)) ?_); (refine zY.v rfl rfl (zJ rfl rfl rfl (by decide)) ?_); (refine zY.w rfl (by exact zB rfl rfl rfl rfl rfl (by rfl) (by exact Nat.le_of_ble_eq_true rfl) rfl rfl) ?_); (refine zY.w rfl (by exact zB rfl rfl rfl rfl rfl (by rfl) (by exact Nat.le_of_ble_eq_true rfl) rfl rfl) ?_); refine zY.nil ?_) | (refine zX.isR (id := 10) ?_; refine zX.yF [4, 8, 9, 10] [4, 6, 8, 9, 10] (by repeat' first | exact zZ.nil | apply zZ.ptr rfl) (by repeat' first | exact zW.nil | apply zW.boxP rfl rfl) (zX.vU (by kernel_rfl) ?_); repeat' (first | refine xW.many (by rfl) ?_ | refine xB.cons ?_ ?_ | exact xB.nil | refine wE.v rfl rfl rfl (zD rfl rfl rfl (by rfl) (by rfl) rfl (by decide)) ?_ | refine wE.w rfl rfl (by exact zB rfl rfl rfl rfl rfl (by rfl) (by exact Nat.le_of_ble_eq_true rfl) rfl rfl) ?_ | refine xW.fin (by rfl) ?_)) | refine zX.yN rfl (by first | assumption | with_reducible rfl) ?_ | refine zX.block ?_ | refine zX.ret ?_))
  all_goals exact ⟨by first | exact .inl rfl | exact .inr rfl, _, Sub.refl _, .tup (rs := [.cell 8 33, .cell 9 60]) (l := [wD t c ws root r0 r1, resN 0]) rfl (by decide) (.cons (.cellN rfl rfl (by rfl) (by rfl)) (.cons (.cellN rfl rfl (by rfl) (by rfl)) .nil))⟩
end Go.Proofs.YthnmfmdkdngggaaDoor
/- Contracts made weaker: nil is an empty slice. Generic over the program. -/
namespace Go.Proofs.YthnmfmdkdngggaaDoor
set_option maxRecDepth 100000
set_option maxHeartbeats 16000000
open Go Go.RowKit
/-- y says no more than x -/
inductive PLe0 : PV → PV → Prop
  | refl (x : PV) : PLe0 x x
  | nil : PLe0 (.val (.slice none 0 0)) (.sl [])
inductive PL0s : List PV → List PV → Prop
  | nil : PL0s [] []
  | cons {x y : PV} {xs ys : List PV} (h : PLe0 x y) (hs : PL0s xs ys) : PL0s (x :: xs) (y :: ys)
inductive PLe1 : PV → PV → Prop
  | refl (x : PV) : PLe1 x x
  | nil : PLe1 (.val (.slice none 0 0)) (.sl [])
  | sl {xs ys : List PV} (hl : xs.length = ys.length) (h : PL0s (flat xs) (flat ys)) : PLe1 (.sl xs) (.sl ys)
inductive PLes : List PV → List PV → Prop
  | nil : PLes [] []
  | cons {x y : PV} {xs ys : List PV} (h : PLe1 x y) (hs : PLes xs ys) : PLes (x :: xs) (y :: ys)
inductive PLe : PV → PV → Prop
  | one {x y : PV} (h : PLe1 x y) : PLe x y
  | agg {xs ys : List PV} (h : PLes xs ys) : PLe (.agg xs) (.agg ys)
inductive PLet : List PV → List PV → Prop
  | nil : PLet [] []
  | cons {x y : PV} {xs ys : List PV} (h : PLe x y) (hs : PLet xs ys) : PLet (x :: xs) (y :: ys)
theorem PLe0.rep {x y : PV} (h : PLe0 x y) {M : Nat → Nat → Prop} {w : World} {v : Value} (hr : Rep M w x v) : Rep M w y v := by
  cases h with
  | refl => exact hr
  | nil => cases hr; exact .nil
theorem PL0s.at_ {xs ys : List PV} (h : PL0s xs ys) : xs.length = ys.length ∧ ∀ (i : Nat) y, ys[i]? = some y → ∃ x, xs[i]? = some x ∧ PLe0 x y := by
  induction h with
  | nil => exact ⟨rfl, fun i y h => by simp at h⟩
  | cons h hs ih =>
    refine ⟨by simp [ih.1], fun i y hy => ?_⟩
    cases i with
    | zero => simp at hy; subst hy; exact ⟨_, rfl, h⟩
    | succ i => exact ih.2 i y hy
theorem PL0s.append {xs ys xs' ys' : List PV} (h : PL0s xs ys) (h' : PL0s xs' ys') : PL0s (xs ++ xs') (ys ++ ys') := by
  induction h with
  | nil => exact h'
  | cons h _ ih => exact .cons h ih
theorem PLe1.rep {x y : PV} (h : PLe1 x y) {M : Nat → Nat → Prop} {w : World} {v : Value} (hr : Rep M w x v) : Rep M w y v := by
  cases h with
  | refl => exact hr
  | nil => cases hr; exact .nil
  | sl hl h =>
    obtain ⟨hfl, hat⟩ := h.at_
    rcases rep_sl hr with ⟨rfl, h0⟩ | ⟨g, off, cap, us, rfl, hl2, hcell, hM, hg, hcap, hm⟩
    · subst h0
      have : _ = [] := List.eq_nil_of_length_eq_zero hl.symm
      subst this
      exact .nil
    · rw [hl] at hcap ⊢
      exact .sl _ g off _ cap us rfl (hl2.len.trans hfl) hcell (fun j c y hc hy => by
        obtain ⟨x, hx, hle⟩ := hat j c hc
        exact hle.rep (hl2.each j x y hx hy)) hl2.one hM hg hcap hm
theorem PLes.refl : ∀ xs : List PV, PLes xs xs
  | [] => .nil
  | x :: xs => .cons (.refl x) (PLes.refl xs)
theorem PLes.at_ {xs ys : List PV} (h : PLes xs ys) : xs.length = ys.length ∧ ∀ (i : Nat) y, ys[i]? = some y → ∃ x, xs[i]? = some x ∧ PLe1 x y := by
  induction h with
  | nil => exact ⟨rfl, fun i y h => by simp at h⟩
  | cons h hs ih =>
    refine ⟨by simp [ih.1], fun i y hy => ?_⟩
    cases i with
    | zero => simp at hy; subst hy; exact ⟨_, rfl, h⟩
    | succ i => exact ih.2 i y hy
theorem PLe.rep {x y : PV} (h : PLe x y) {M : Nat → Nat → Prop} {w : World} {v : Value} (hr : Rep M w x v) : Rep M w y v := by
  cases h with
  | one h => exact h.rep hr
  | agg h =>
    obtain ⟨hl, hat⟩ := h.at_
    cases hr with
    | agg cs vs hl2 h2 h1 => exact .agg _ vs (hl2.trans hl) (fun i c u hc hu => by
        obtain ⟨x, hx, hxy⟩ := hat i c hc
        exact hxy.rep (h2 i x u hx hu)) h1
theorem PLet.at_ {xs ys : List PV} (h : PLet xs ys) : xs.length = ys.length ∧ ∀ (i : Nat) y, ys[i]? = some y → ∃ x, xs[i]? = some x ∧ PLe x y := by
  induction h with
  | nil => exact ⟨rfl, fun i y h => by simp at h⟩
  | cons h hs ih =>
    refine ⟨by simp [ih.1], fun i y hy => ?_⟩
    cases i with
    | zero => simp at hy; subst hy; exact ⟨_, rfl, h⟩
    | succ i => exact ih.2 i y hy
theorem PLe.refl (x : PV) : PLe x x := .one (.refl x)
section
variable {P : Program} {f : FuncId}
theorem Fn.weakT {args l l' : List PV} (h : Fn P f args (.tup l)) (hl : PLet l l') : Fn P f args (.tup l') :=
  fun M w vs a b c d => (h M w vs a b c d).mono fun e w' ⟨v, e1, ⟨us, e2, e3, e4⟩, e5⟩ => ⟨v, e1, ⟨us, e2, e3.trans hl.at_.1, fun i x u hx hu => by
    obtain ⟨y, hy, hle⟩ := hl.at_.2 i x hx
    exact hle.rep (e4 i y u hy hu)⟩, e5⟩
theorem Fn.weakA {args args' : List PV} {r : RV} (h : Fn P f args r) (hl : PLet args' args) : Fn P f args' r :=
  fun M w vs a b c d => h M w vs a b (c.trans hl.at_.1) fun i x v hx hv => by
    obtain ⟨y, hy, hle⟩ := hl.at_.2 i x hx
    exact hle.rep (d i y v hy hv)
end
end Go.Proofs.YthnmfmdkdngggaaDoor
/- Worlds: an access made, as a function of all accesses that programs ask; its contract. -/
namespace Go.Proofs.YthnmfmdkdngggaaDoor
set_option maxRecDepth 100000
set_option maxHeartbeats 16000000
open Go Go.RowKit
set_option linter.unusedSimpArgs false
set_option linter.unusedVariables false
attribute [local irreducible] zY zX Step zC Sub zL zI Fn
structure Wd where
  t : Int
  c : Int
  ws : List Int
  root : Int
  r0 : List (List Int × Int)
  r1 : List (List Int × Int)
def Wd.pv (w : Wd) : PV := wD w.t w.c w.ws w.root w.r0 w.r1
def bytOf : PV → List Int
  | .val (.int _ n) => [n]
  | _ => []
def qZ : PV → List Int
  | .sl es => es.flatMap bytOf
  | _ => []
theorem bytsOf_byts (bs : List Int) : qZ (.sl (byts bs)) = bs := by
  show (byts bs).flatMap bytOf = bs
  induction bs with
  | nil => rfl
  | cons b r ih => show bytOf _ ++ (byts r).flatMap bytOf = _; rw [ih]; rfl
/-- a stream, behind an access of it -/
def strX (kind : Int) (bs : List Int) (p : List Int × Int) : List Int × Int := bif decide (kind = 5) then (p.1 ++ bs, p.2) else (p.1, (p.1.length : Int))
/-- an access made -/
def doX (W : Wd) (me : Nat) (q : Ned) (fails : Bool) : Wd × xM :=
  bif decide (q.kind = 5) || decide (q.kind = 6) then
    bif fails then (W, ⟨0, y8, true⟩) else ({ W with r0 := match W.r0[me]? with
      | some p => W.r0.set me (strX q.kind (qZ q.d) p)
      | none => W.r0 }, ⟨0, y8, false⟩)
  else match (bif decide (q.cell < 0) then none else W.ws[q.cell.toNat]?) with
    | some old => ({ W with ws := W.ws.set q.cell.toNat (turnR q.kind old q.a q.b).2 }, ⟨(turnR q.kind old q.a q.b).1, y8, false⟩)
    | none => (W, ⟨0, y8, false⟩)
/-- a world that is right, its streams no longer than so -/
structure vB (b : Nat) (W : Wd) : Prop where
  ws : ∀ x ∈ W.ws, U x
  len : W.ws.length ≤ 1000000
  root : W.root = 0
  rows : W.r0.length ≤ 1000000
  str : ∀ p ∈ W.r0, p.1.length ≤ b
theorem vB.le {b c : Nat} {W : Wd} (h : vB b W) (hc : b ≤ c) : vB c W := ⟨h.ws, h.len, h.root, h.rows, fun p hp => Nat.le_trans (h.str p hp) hc⟩
theorem turnR_U {kind old a b : Int} (h : U old) (ha : U a) (hb : U b) : U (turnR kind old a b).1 ∧ U (turnR kind old a b).2 := by
  have z : U 0 := U.zero
  have z1 : U 1 := by unfold U; decide
  unfold turnR
  split
  · exact ⟨h, h⟩
  · split
    · exact ⟨z, ha⟩
    · split
      · split
        · exact ⟨z1, hb⟩
        · exact ⟨z, h⟩
      · split
        · exact ⟨h, by rw [wrapU]; unfold U; omega⟩
        · exact ⟨h, ha⟩
theorem vV.len {q : Ned} (h : vV q) : (qZ q.d).length ≤ 1000 := by
  rcases h.d with h | ⟨_, bs, _, h1, e⟩
  · rw [h.2]; exact Nat.zero_le _
  · rw [e, bytsOf_byts]; exact h1
theorem doX_ok {b : Nat} {W : Wd} {q : Ned} (h : vB b W) (hq : vV q) (me : Nat) (f : Bool) : vB (b + 1000) (doX W me q f).1 ∧ U (doX W me q f).2.n := by
  have h0 := h.le (Nat.le_add_right b 1000)
  have z : U 0 := U.zero
  have hl := hq.len
  unfold doX
  cases decide (q.kind = 5) || decide (q.kind = 6)
  · rw [cond_false]
    cases e : (bif decide (q.cell < 0) then none else W.ws[q.cell.toNat]?) with
    | none => exact ⟨h0, z⟩
    | some old =>
      have ho : U old := by
        cases hd : decide (q.cell < 0) <;> rw [hd] at e
        · exact h.ws _ (List.mem_of_getElem? e)
        · cases e
      obtain ⟨h1, h2⟩ := turnR_U (kind := q.kind) ho hq.a hq.b
      refine ⟨⟨fun x hx => ?_, by simpa using h.len, h.root, h.rows, h0.str⟩, h1⟩
      rcases List.mem_or_eq_of_mem_set hx with hx | rfl
      · exact h.ws x hx
      · exact h2
  · rw [cond_true]
    cases f
    · rw [cond_false]
      cases e : W.r0[me]? with
      | none => exact ⟨h0, z⟩
      | some p =>
        refine ⟨⟨h.ws, h.len, h.root, by simpa using h.rows, fun x hx => ?_⟩, z⟩
        rcases List.mem_or_eq_of_mem_set hx with hx | rfl
        · exact h0.str x hx
        · have hp := h.str p (List.mem_of_getElem? e)
          unfold strX
          cases decide (q.kind = 5)
          · exact Nat.le_trans hp (Nat.le_add_right _ _)
          · show (p.1 ++ qZ q.d).length ≤ _
            rw [List.length_append]
            omega
    · exact ⟨h0, z⟩
theorem doX_keeps (W : Wd) (me : Nat) (q : Ned) (f : Bool) : (doX W me q f).1.t = W.t ∧ (doX W me q f).1.c = W.c ∧ (doX W me q f).1.r0.length = W.r0.length ∧ (doX W me q f).1.ws.length = W.ws.length ∧ (doX W me q f).1.r1 = W.r1 := by
  unfold doX
  cases decide (q.kind = 5) || decide (q.kind = 6)
  · rw [cond_false]
    cases (bif decide (q.cell < 0) then none else W.ws[q.cell.toNat]?) with
    | none => exact ⟨rfl, rfl, rfl, rfl, rfl⟩
    | some old => exact ⟨rfl, rfl, rfl, by simp, rfl⟩
  · rw [cond_true]
    cases f
    · rw [cond_false]
      cases W.r0[me]? with
      | none => exact ⟨rfl, rfl, rfl, rfl, rfl⟩
      | some p => exact ⟨rfl, rfl, by simp, rfl, rfl⟩
    · exact ⟨rfl, rfl, rfl, rfl, rfl⟩
theorem resN_le (n : Int) (fl : Bool) : PLe (.agg [.val (.int .u64 n), .val (.slice none 0 0), .val (.bool fl)]) (resV ⟨n, y8, fl⟩) := .refl _
theorem doX_fn {b : Nat} {W : Wd} {q : Ned} (h : vB b W) (hb : b ≤ 900000) (hq : vV q) {me : Nat} (hme : me < W.r0.length) (f : Bool) :
    Fn Tryd.prog 15 [W.pv, .val (.int .i64 me), accV q.kind q.cell q.a q.b (.sl (byts (qZ q.d))), .val (.bool f)] (.tup [(doX W me q f).1.pv, resV (doX W me q f).2]) := by
  obtain ⟨t, c, ws, root, r0, r1⟩ := W
  obtain ⟨kind, cell, a, b', d, w⟩ := q
  obtain rfl : root = 0 := h.root
  have hd : (0 ≤ kind ∧ kind ≤ 4) ∨ kind = 5 ∨ kind = 6 := by
    rcases hq.d with ⟨h, _⟩ | ⟨h, _⟩
    · rcases h with h | h
      · exact .inl h
      · exact .inr (.inr h)
    · exact .inr (.inl h)
  have hl : (qZ d).length ≤ 1000 := hq.len
  rcases hd with hk | hk
  · have e : (decide (kind = 5) || decide (kind = 6)) = false := by rw [decide_eq_false (show ¬kind = 5 by omega), decide_eq_false (show ¬kind = 6 by omega)]; rfl
    unfold doX
    dsimp only
    rw [e, cond_false]
    by_cases hc : cell < 0
    · rw [decide_eq_true hc, cond_true]
      exact (doOut_fn t c kind cell a b' me 0 hk ws (.sl (byts (qZ d))) r0 r1 f (.inl hc)).weakT (.cons (.refl _) (.cons (resN_le _ false) .nil))
    · rw [decide_eq_false hc, cond_false]
      cases ho : ws[cell.toNat]? with
      | none =>
        refine (doOut_fn t c kind cell a b' me 0 hk ws (.sl (byts (qZ d))) r0 r1 f (.inr ?_)).weakT (.cons (.refl _) (.cons (resN_le _ false) .nil))
        have := List.getElem?_eq_none_iff.1 ho
        omega
      | some old =>
        obtain ⟨i, rfl⟩ : ∃ i : Nat, cell = (i : Int) := ⟨cell.toNat, by omega⟩
        rw [Int.toNat_natCast] at ho ⊢
        exact (doWord_fn t c kind a b' old me 0 hk i ws (.sl (byts (qZ d))) r0 r1 f ho h.len).weakT (.cons (.refl _) (.cons (resN_le _ false) .nil))
  · have hme' : me < r0.length := hme
    have hr : r0[me]? = some r0[me] := List.getElem?_eq_getElem hme'
    have hs := h.str r0[me] (List.getElem_mem hme')
    generalize r0[me] = p at hr hs
    obtain ⟨x, s⟩ := p
    have hs : x.length ≤ b := hs
    unfold doX
    dsimp only
    rcases hk with rfl | rfl
    · cases f
      · simp only [hr, decide_true, Bool.true_or, cond_true, cond_false]
        exact (doDisk50_fn t c cell a b' 0 ws r0 r1 me x s (qZ d) (by decide) rfl hr h.rows (by omega)).weakT (.cons (.refl _) (.cons (resN_le 0 false) .nil))
      · exact (doFail5_fn t c cell a b' me 0 ws (.sl (byts (qZ d))) r0 r1).weakT (.cons (.refl _) (.cons (resN_le 0 true) .nil))
    · cases f
      · simp only [hr, decide_true, Bool.or_true, cond_true, cond_false]
        exact (doDisk60_fn t c cell a b' 0 ws r0 r1 me x s (.sl (byts (qZ d))) (by decide) rfl hr h.rows).weakT (.cons (.refl _) (.cons (resN_le 0 false) .nil))
      · exact (doFail6_fn t c cell a b' me 0 ws (.sl (byts (qZ d))) r0 r1).weakT (.cons (.refl _) (.cons (resN_le 0 true) .nil))
/-! ### A world's answers -/
def wSt (me : Nat) (fail : Nat → Bool) (s : Wd × Nat) (q : Ned) : Ans (Wd × Nat) := .ret (doX s.1 me q (fail s.2)).2 ((doX s.1 me q (fail s.2)).1, s.2 + 1)
theorem wSt_le {α : Type} {me : Nat} {fail : Nat → Bool} : ∀ {p : Pr α} {s : Wd × Nat} {x : α} {s' : Wd × Nat}, p.run (wSt me fail) s = .done x s' → s.2 ≤ s'.2
  | .ret _, _, _, _, h => by cases h; exact Nat.le_refl _
  | .stuck, _, _, _, h => by cases h
  | .ask q k, s, _, s', h => by
    rw [wG] at h
    have h2 := wSt_le (p := k _) h
    exact Nat.le_trans (Nat.le_succ _) h2
/-- what is left of a program behind a log -/
def Pr.after {α : Type} : Pr α → List xM → Option (Pr α)
  | p, [] => some p
  | .ask _ k, r :: L => (k r).after L
  | _, _ :: _ => none
theorem after_snoc {α : Type} {q : Ned} {k : xM → Pr α} (r : xM) : ∀ {L : List xM} {p : Pr α}, p.after L = some (.ask q k) → p.after (L ++ [r]) = some (k r)
  | [], p, h => by
    have : p = .ask q k := by cases p <;> exact Option.some.inj h
    subst this
    show (k r).after [] = some (k r)
    cases k r <;> rfl
  | x :: L, .ask q' k', h => after_snoc r (L := L) (p := k' x) h
  | x :: L, .ret _, h => by cases h
  | x :: L, .stuck, h => by cases h
theorem after_run {α : Type} {p' : Pr α} : ∀ {L L0 : List xM} {p : Pr α}, p.after L = some p' → p.run (wK (L0 ++ L)) L0.length = p'.run (wK (L0 ++ L)) (L0.length + L.length)
  | [], L0, p, h => by
    have : p = p' := by cases p <;> exact Option.some.inj h
    subst this
    simp
  | x :: L, L0, .ask q k, h => by
    have e : wK (L0 ++ x :: L) L0.length q = .ret x (L0.length + 1) := by unfold wK; simp
    rw [wG, e]
    have := after_run (L := L) (L0 := L0 ++ [x]) (p := k x) h
    simp only [List.append_assoc, List.singleton_append, List.length_append, List.length_cons, List.length_nil, Nat.zero_add] at this ⊢
    rw [this]
    congr 1
    omega
  | x :: L, _, .ret _, h => by cases h
  | x :: L, _, .stuck, h => by cases h
theorem after_need {α : Type} {p : Pr α} {L : List xM} {q : Ned} {k : xM → Pr α} (h : p.after L = some (.ask q k)) : p.run (wK L) 0 = .need q L.length := by
  have := after_run (L0 := []) h
  simp only [List.nil_append, List.length_nil, Nat.zero_add] at this
  rw [this, wG]
  have e : wK L L.length q = .need q L.length := by unfold wK; simp
  rw [e]
theorem after_done {α : Type} {p : Pr α} {L : List xM} {x : α} (h : p.after L = some (.ret x)) : p.run (wK L) 0 = .done x L.length := by
  have := after_run (L0 := []) h
  simp only [List.nil_append, List.length_nil, Nat.zero_add] at this
  rw [this, yQ]
end Go.Proofs.YthnmfmdkdngggaaDoor
/- Operations of records made at once: they end soon, in whatever world. -/
namespace Go.Proofs.YthnmfmdkdngggaaDoor
set_option maxRecDepth 100000
set_option maxHeartbeats 16000000
open Go Go.RowKit
set_option linter.unusedSimpArgs false
set_option linter.unusedVariables false
structure DirI (W : Wd) : Prop where
  t : W.t = 1
  len : W.ws.length = 25
  z : W.ws[7]? = some 0
  s : W.r0.length = 1
/-- accesses made one after the other, none fails -/
structure DirSt (st : Wd × Nat → Ned → Ans (Wd × Nat)) : Prop where
  ret : ∀ W i q, i < 700 → st (W, i) q = .ret (doX W 0 q false).2 ((doX W 0 q false).1, i + 1)
def Good {α : Type} (p : Pr α) (n : Nat) : Prop := ∀ W, DirI W → ∃ x W' k, k ≤ n ∧ DirI W' ∧ ∀ st, DirSt st → ∀ i, i + k ≤ 700 → p.run st (W, i) = .done x (W', i + k)
theorem Good.ret {α : Type} (x : α) {n : Nat} : Good (.ret x) n := fun W h => ⟨x, W, 0, Nat.zero_le _, h, fun st _ i _ => rfl⟩
theorem Good.bind {α β : Type} {p : Pr α} {f : α → Pr β} {n m : Nat} (h : Good p n) (hf : ∀ x, Good (f x) m) : Good (p.bind f) (n + m) := fun W hW => by
  obtain ⟨x, W1, k, hk, h1, r1⟩ := h W hW
  obtain ⟨y, W2, j, hj, h2, r2⟩ := hf x W1 h1
  refine ⟨y, W2, k + j, by omega, h2, fun st hs i hi => ?_⟩
  rw [run_bind, r1 st hs i (by omega), Held.zO, r2 st hs (i + k) (by omega), Nat.add_assoc]
theorem Good.cond {α : Type} {c : Bool} {p1 p2 : Pr α} {n : Nat} (h1 : Good p1 n) (h2 : Good p2 n) : Good (bif c then p1 else p2) n := by
  cases c
  · exact h2
  · exact h1
theorem dir_keep {W : Wd} (h : DirI W) (q : Ned) (hc : q.cell ≠ 7) : DirI (doX W 0 q false).1 := by
  obtain ⟨k1, _, k3, k4, _⟩ := doX_keeps W 0 q false
  refine ⟨k1.trans h.t, k4.trans h.len, ?_, k3.trans h.s⟩
  unfold doX
  cases decide (q.kind = 5) || decide (q.kind = 6)
  · rw [cond_false]
    by_cases hd : q.cell < 0
    · rw [decide_eq_true hd]
      exact h.z
    · rw [decide_eq_false hd, cond_false]
      cases e : W.ws[q.cell.toNat]? with
      | none => exact h.z
      | some old =>
        show (W.ws.set q.cell.toNat _)[7]? = some 0
        rw [List.getElem?_set_ne (by omega)]
        exact h.z
  · exact h.z
theorem Good.ask {α : Type} (q : Ned) {k : xM → Pr α} {n : Nat} (hc : q.cell ≠ 7) (hk : ∀ r, Good (k r) n) : Good (.ask q k) (n + 1) := fun W hW => by
  obtain ⟨x, W', m, hm, h1, r1⟩ := hk (doX W 0 q false).2 _ (dir_keep hW q hc)
  refine ⟨x, W', m + 1, by omega, h1, fun st hs i hi => ?_⟩
  rw [wG, hs.ret W i q (by omega)]
  show (k _).run st (_, i + 1) = _
  rw [r1 st hs (i + 1) (by omega)]
  congr 2
  omega
theorem vL {c : Int} (hc : c ≠ 7) : Good (loadP c) 1 := Good.ask _ hc fun r => .ret _
theorem good_store {c v : Int} (hc : c ≠ 7) : Good (storeP c v) 1 := Good.ask _ hc fun r => .ret _
theorem good_add {c v : Int} (hc : c ≠ 7) : Good (addP c v) 1 := Good.ask _ hc fun r => .ret _
theorem good_disk : ∀ {l : List Ned}, (∀ q ∈ l, q.cell ≠ 7) → Good (diskP l) l.length
  | [], _ => .ret _
  | q :: l, h => Good.ask q (h q (by simp)) fun r => .cond (.ret _) (good_disk fun q' hq => h q' (by simp [hq]))
theorem good_set (over : Int → Bool) {c b : Int} (h0 : 0 ≤ c) (h1 : c < 25) (hc : c ≠ 7) : Good (setP over c b) 2 := fun W hW => by
  have hlt : c.toNat < W.ws.length := by rw [hW.len]; omega
  obtain ⟨F, hF⟩ : ∃ F, W.ws[c.toNat]? = some F := ⟨_, List.getElem?_eq_getElem hlt⟩
  have hn : ¬ c < 0 := by omega
  have hset : W.ws.set c.toNat F = W.ws := wP hF
  have e1 : doX W 0 (vS 0 c 0 0 y8) false = (W, ⟨F, y8, false⟩) := by
    show doX W 0 ⟨0, c, 0, 0, y8, y8⟩ false = _
    have e0 : (decide ((0 : Int) = 5) || decide ((0 : Int) = 6)) = false := rfl
    unfold doX
    dsimp only
    rw [e0, cond_false, decide_eq_false hn, cond_false, hF]
    simp [turnR, hset]
  have r1 : ∀ st, DirSt st → ∀ i, i < 700 → (loadP c).run st (W, i) = .done F (W, i + 1) := fun st hs i hi => by
    show (Pr.ask (vS 0 c 0 0 y8) fun r => .ret r.n).run st (W, i) = _
    rw [wG, hs.ret W i _ hi, e1]
    rfl
  have hmany : many = (many - 1) + 1 := rfl
  cases ho : over F
  · have e2 : doX W 0 (vS 2 c F (F + b) y8) false = ({ W with ws := W.ws.set c.toNat (F + b) }, ⟨1, y8, false⟩) := by
      show doX W 0 ⟨2, c, F, F + b, y8, y8⟩ false = _
      have e0 : (decide ((2 : Int) = 5) || decide ((2 : Int) = 6)) = false := rfl
      unfold doX
      dsimp only
      rw [e0, cond_false, decide_eq_false hn, cond_false, hF]
      simp [turnR]
    have hk := dir_keep hW (vS 2 c F (F + b) y8) hc
    rw [e2] at hk
    refine ⟨(), { W with ws := W.ws.set c.toNat (F + b) }, 2, Nat.le_refl _, hk, fun st hs i hi => ?_⟩
    have r2 : (casP c F (F + b)).run st (W, i + 1) = .done true ({ W with ws := W.ws.set c.toNat (F + b) }, i + 2) := by
      show (Pr.ask (vS 2 c F (F + b) y8) fun r => .ret (decide (r.n = 1))).run st (W, i + 1) = _
      rw [wG, hs.ret W (i + 1) _ (by omega), e2]
      rfl
    unfold setP
    rw [hmany, Pr.loop_succ, run_bind]
    unfold wJ
    rw [run_bind, r1 st hs i (by omega), Held.zO, ho, cond_false, run_bind, r2]
    rfl
  · refine ⟨(), W, 1, by omega, hW, fun st hs i hi => ?_⟩
    unfold setP
    rw [hmany, Pr.loop_succ, run_bind]
    unfold wJ
    rw [run_bind, r1 st hs i (by omega), Held.zO, ho, cond_true]
    rfl
theorem field1 {r f : Int} (hr : r = 1 ∨ r = 2) (h0 : 0 ≤ f) (h1 : f ≤ 6) : 0 ≤ y9 1 r f ∧ y9 1 r f < 25 ∧ y9 1 r f ≠ 7 := by unfold y9; omega
theorem good_stores {r : Int} (hr : r = 1 ∨ r = 2) : ∀ {l : List (Int × Int)}, (∀ p ∈ l, 0 ≤ p.1 ∧ p.1 ≤ 6) → Good (wZ 1 r l) l.length
  | [], _ => .ret _
  | p :: l, h => by
    have hp := h p (by simp)
    have := Good.bind (good_store (v := p.2) (field1 hr hp.1 hp.2).2.2) fun _ => good_stores hr (l := l) fun p' hp' => h p' (by simp [hp'])
    rw [Nat.add_comm] at this
    exact this
theorem good_make {r y e u v x : Int} (hr : r = 1 ∨ r = 2) : Good (makeP 1 r y e u v x) 7 :=
  Good.bind (m := 6) (good_add (by decide)) fun n => Good.bind (n := 6) (m := 0) (good_stores hr fun p hp => by
    simp only [x9, List.mem_cons, List.not_mem_nil, or_false] at hp
    rcases hp with rfl | rfl | rfl | rfl | rfl | rfl <;> exact ⟨by simp, by simp⟩) fun _ => .ret _
theorem good_alive {r s : Int} (hr : r = 1 ∨ r = 2) : Good (aliveP 1 r s) 2 :=
  Good.bind (m := 1) (vL (field1 hr (by decide) (by decide)).2.2) fun w => Good.bind (m := 0) (vL (field1 hr (by decide) (by decide)).2.2) fun f => .ret _
theorem good_wr {r b k s y u v x : Int} (hr : r = 1 ∨ r = 2) : Good (wrP 1 r b k s y u v x) 4 :=
  have h := field1 (f := 2) hr (by decide) (by decide)
  Good.bind (n := 2) (m := 2) (good_disk (l := wrAcc k s y u v x) fun q hq => by
    simp only [wrAcc, List.mem_cons, List.not_mem_nil, or_false] at hq
    rcases hq with rfl | rfl <;> (show (0 : Int) ≠ 7; decide)) fun ok => .cond (Good.bind (n := 2) (m := 0) (good_set _ h.1 h.2.1 h.2.2) fun _ => .ret _) (.ret _)
theorem good_rest {r b f : Int} (hr : r = 1 ∨ r = 2) : Good (restP 1 r b f) 8 :=
  have h := fun f h0 h1 => (field1 (r := r) (f := f) hr h0 h1).2.2
  .cond (.ret _) (.cond (Good.bind (m := 7) (vL (h 1 (by decide) (by decide))) fun _ => Good.bind (m := 6) (vL (h 4 (by decide) (by decide))) fun _ => Good.bind (m := 5) (vL (h 5 (by decide) (by decide))) fun _ => Good.bind (m := 4) (vL (h 6 (by decide) (by decide))) fun _ => good_wr hr)
    (fun W hW => by
      obtain ⟨x, W', k, hk, h1, r1⟩ := good_wr (r := r) (b := b) (k := 2) (s := f / 4) (y := 0) (u := 0) (v := 0) (x := 0) hr W hW
      exact ⟨x, W', k, by omega, h1, r1⟩))
theorem good_save {r b : Int} (hr : r = 1 ∨ r = 2) : Good (saveP 1 r b) 9 := Good.bind (n := 1) (m := 8) (vL (field1 hr (by decide) (by decide)).2.2) fun f => good_rest hr
theorem good_dead {r s : Int} (hr : r = 1 ∨ r = 2) : Good (deadP 1 r s) 9 := Good.bind (n := 1) (m := 8) (vL (field1 hr (by decide) (by decide)).2.2) fun f => .cond (good_rest hr) (.ret _)
end Go.Proofs.YthnmfmdkdngggaaDoor
