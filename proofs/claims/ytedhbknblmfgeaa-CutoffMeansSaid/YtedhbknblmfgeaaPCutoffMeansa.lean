/-
  The functions that CutoffMeans reaches make these data: printed by a program, checked by the kernel.
-/
import Derived.Test.YtedhbknblmfgeaaDCutoffMeansa
import Derived.Test.YtedhbknblmfgeaaProg
import Derived.KernelRfl
set_option linter.all false
namespace Go.V
open Go
noncomputable section
abbrev tP:Program:=Go.Proofs.Try.prog
theorem tM:tP.follows .mixedOrders = true:=by kernel_rfl
open Go.Proofs.Try
abbrev I:Ty:=.int .i64
abbrev J:Shp:=.int .i64
abbrev Cs:=List (Nat×Cut)
abbrev bd (f:Func):Code:=f.body.getD .skip
abbrev Ok (l:List Entry):=∀ e∈l,EntryOk tP e
theorem k0:Ok []:=fun _ h => nomatch h
theorem kc {e:Entry} {l:List Entry} (h:EntryOk tP e) (t:Ok l):Ok (e :: l):=List.forall_mem_cons.2 ⟨h,t⟩
def Z1:Shps:=shps [J,J,J,J,.bool,.bool,J,J,J,J]
def Z2:Shps:=shps [(.ro (.sl (.one (.int .u8)))),J]
def Z3:Shps:=shps [(.ow (.one I)),(.ow (.one I))]
def Z4:Shps:=shps [(.bo (.one I)),(.bo (.one I))]
def Z5:Shps:=shps [(.sl (.one I)),(.sl (.one I))]
def Z6:Shps:=shps [(.sl (.one (.int .u8))),J]
def Z7:Shps:=shps [(.ow (.one (.int .u8))),J]
def Z8:Shps:=shps [(.sl (.one (.int .u8)))]
def Z9:Row:=.cons I (.one (.sl (.one I)))
def Z10:Shps:=shps [J,J,J,J,J,J,J,J]
def Z11:Row:=.cons (.sl (.one I)) (.one I)
def Z12:Shps:=shps [J,J,(.ow (.one I))]
def Z13:Shps:=shps [J,J,(.sl (.one I))]
def Z14:Shps:=shps [(.ow (.one .bool))]
def Z15:Shps:=shps [(.ow (.one I)),J]
def Z16:Row:=.cons .bool (.one .bool)
def Z17:Shps:=shps [J,J,J,J,J,J]
def Z18:Row:=.cons I (.one .bool)
def Z19:Row:=.one (.sl (.one I))
def Z20:Shps:=shps [.bool,J,J]
def Z21:Shps:=shps [J,J,.bool]
def Z22:Row:=.cons I (.one I)
def Z23:Row:=.one (.int .u8)
def Z24:Shps:=shps [J,.bool]
def Z25:Shps:=shps [J,J,J]
def Z26:Shps:=shps [.bool]
def Z27:Shps:=shps [J,.bool,.bool,(.sl Z22)]
def Z28:Row:=.cons .bool (.one (.sl Z22))
def Z29:Row:=.cons .bool Z22
def Z30:Row:=.one (.sl Z22)
def Z31:Shps:=shps [(.ow (.one I)),(.ow Z29),J]
def Z32:Row:=.cons .bool Z28
def gaaC:Ctx:=⟨tP,10,0,[(1,[3,4,5,6,7,8,9])],[],[]⟩
def gaaB:=bd f11
def gaaa:Shps:=Z8
def gaao:Shps:=(shps [])
def gaaE:Entry:=⟨11,gaaa,(.box Z6),gaao,fun x => gaa x.1⟩
theorem gaaK:EntryOk tP gaaE :=
 entry_ok tM rfl k0 func11 (by kernel_rfl) (by kernel_rfl) (CutsOk.nil (C:=gaaC) (root:=gaaB)) [] _ _ _ _ (fun x => by kernel_rfl) fun x => by kernel_rfl
def gabC:Ctx:=⟨tP,77,1,[(1,[6,7,8,9,10,11,12,13,14,15,16,17,18]),(3,[20,21,22,23,24,25,26]),(4,[27,28,29,30,31,32,33,34,35,36,37,38]),(5,[39,40,41,42,43,44,45,46,47,48,49,50,51]),(6,[53,54,55,56,57,58,59,60,61,62,63,64,65,66]),(7,[67,68,69,70,71,72,73]),(8,[74,75,76])],[],[]⟩
def gabB:=bd f37
def gaba:Shps:=(shps [(.box Z2),J])
def gabo:Shps:=(shps [(.box Z2)])
def gabk1:Cs:=(63,cutOf (shps [(.box Z2),J,J]) [0,1,5] [.ret (shps [(.box Z2),J]) [0,4]] fun x => gab_63 x.1.1 x.1.2.1 x.2.1 x.2.2.1) :: []
theorem gabc1:CutsOk tP gabC gabB gabk1 :=
 CutsOk.cut tM rfl k0 .nil _ _ _ _ _ (by kernel_rfl) fun x => by kernel_rfl
def gabE:Entry:=⟨37,gaba,J,gabo,fun x => gab x.1.1 x.1.2.1 x.2.1⟩
theorem gabK:EntryOk tP gabE :=
 entry_ok tM rfl k0 func37 (by kernel_rfl) (by kernel_rfl) gabc1 [] _ _ _ _ (fun x => by kernel_rfl) fun x => by kernel_rfl
def gacC:Ctx:=⟨tP,11,1,[(1,[5,6,7,8,9,10])],[],[]⟩
def gacB:=bd f27
def gaca:Shps:=(shps [(.box Z2),J])
def gaco:Shps:=(shps [(.box Z2)])
theorem gacL:Ok [gabE]:=kc gabK k0
def gacE:Entry:=⟨27,gaca,.bool,gaco,fun x => gac x.1.1 x.1.2.1 x.2.1⟩
theorem gacK:EntryOk tP gacE :=
 entry_ok tM rfl gacL func27 (by kernel_rfl) (by kernel_rfl) (CutsOk.nil (C:=gacC) (root:=gacB)) [] _ _ _ _ (fun x => by kernel_rfl) fun x => by kernel_rfl
def gadC:Ctx:=⟨tP,15,1,[(1,[7,8,9,10,11,12,13,14])],[],[]⟩
def gadB:=bd f28
def gada:Shps:=(shps [(.box Z2),J,J])
def gado:Shps:=(shps [(.box Z2)])
theorem gadL:Ok [gabE]:=kc gabK k0
def gadE:Entry:=⟨28,gada,J,gado,fun x => gad x.1.1 x.1.2.1 x.2.1 x.2.2.1⟩
theorem gadK:EntryOk tP gadE :=
 entry_ok tM rfl gadL func28 (by kernel_rfl) (by kernel_rfl) (CutsOk.nil (C:=gadC) (root:=gadB)) [] _ _ _ _ (fun x => by kernel_rfl) fun x => by kernel_rfl
def gaeC:Ctx:=⟨tP,42,1,[(1,[8,9,10,11,12,13,14,15,16,17,18,19,20]),(2,[21,22,23,24,25,26,27,28]),(3,[29,30,31,32]),(4,[33,34,35,36,37,38,39,40]),(5,[41])],[],[]⟩
def gaeB:=bd f71
def gaea:Shps:=(shps [(.box Z2),J,J])
def gaeo:Shps:=(shps [(.box Z2)])
theorem gaeL:Ok [gadE,gabE]:=kc gadK (kc gabK k0)
def gaeE:Entry:=⟨71,gaea,(.agg Z1),gaeo,fun x => gae x.1.1 x.1.2.1 x.2.1 x.2.2.1⟩
theorem gaeK:EntryOk tP gaeE :=
 entry_ok tM rfl gaeL func71 (by kernel_rfl) (by kernel_rfl) (CutsOk.nil (C:=gaeC) (root:=gaeB)) [] _ _ _ _ (fun x => by kernel_rfl) fun x => by kernel_rfl
def gafC:Ctx:=⟨tP,40,1,[(1,[6,7,8,9,10,11]),(2,[12,13]),(3,[14]),(5,[18,19,20,21,22,23]),(6,[24,25,26,27,28,29,30,31,32,33,34,35,36,37,38]),(4,[16,17]),(7,[39])],[],[]⟩
def gafB:=bd f108
def gafa:Shps:=(shps [(.box Z2)])
def gafo:Shps:=(shps [(.box Z2)])
theorem gafL:Ok [gadE,gabE]:=kc gadK (kc gabK k0)
def gafk1:Cs:=(58,loopOf (shps [(.box Z2),(.ow Z22),J]) [0,3,4] [.exit 0 (shps [(.box Z2),(.ow Z22)]) [0,3]] gaf_58F) :: []
theorem gafc1:CutsOk tP gafC gafB gafk1 :=
 CutsOk.loop tM rfl gafL .nil _ _ _ _ _ (by kernel_rfl) (by kernel_rfl) fun x => by kernel_rfl
def gafE:Entry:=⟨108,gafa,(.ow Z22),gafo,fun x => gaf x.1.1 x.1.2.1⟩
theorem gafK:EntryOk tP gafE :=
 entry_ok tM rfl gafL func108 (by kernel_rfl) (by kernel_rfl) gafc1 [] _ _ _ _ (fun x => by kernel_rfl) fun x => by kernel_rfl
def gagC:Ctx:=⟨tP,36,1,[(1,[7,8,9,10,11]),(2,[12,13]),(3,[14]),(5,[18,19,20,21,22,23,24,25,26,27,28,29,30,31,32,33,34]),(4,[16,17]),(6,[35])],[],[]⟩
def gagB:=bd f109
def gaga:Shps:=(shps [(.box Z2),J])
def gago:Shps:=(shps [(.box Z2)])
theorem gagL:Ok [gadE]:=kc gadK k0
def gagk1:Cs:=(58,loopOf (shps [(.box Z2),(.box Z12),(.box Z12),J]) [0,4,5,6] [.exit 0 (shps [(.box Z2),(.box Z12),(.box Z12)]) [0,4,5]] gag_58F) :: []
theorem gagc1:CutsOk tP gagC gagB gagk1 :=
 CutsOk.loop tM rfl gagL .nil _ _ _ _ _ (by kernel_rfl) (by kernel_rfl) fun x => by kernel_rfl
def gagE:Entry:=⟨109,gaga,(.agg Z13),gago,fun x => gag x.1.1 x.1.2.1 x.2.1⟩
theorem gagK:EntryOk tP gagE :=
 entry_ok tM rfl gagL func109 (by kernel_rfl) (by kernel_rfl) gagc1 [4] _ _ _ _ (fun x => by kernel_rfl) fun x => by kernel_rfl
def gahC:Ctx:=⟨tP,88,3,[(2,[10,11,12,13,14,15]),(3,[16,17]),(4,[18,19,20,21,22]),(6,[26,27,28,29,30,31,32,33,34,35,36,37,38,39,40,41,42,43,44]),(7,[45,46,47,48,49,50,51]),(5,[24,25]),(8,[52,53]),(9,[54,55,56,57,58]),(11,[62,63,64,65,66]),(12,[67,68,69,70,71,72,73,74,75,76]),(13,[77,78,79,80,81,82,83,84,85,86]),(10,[60,61]),(14,[87])],[],[]⟩
def gahB:=bd f72
def gaha:Shps:=(shps [(.box Z2),(.box (shps [(.ow Z18),(.ow (.cons I (.cons I (.cons I (.cons I (.cons .bool (.cons .bool (.cons I (.cons I Z22))))))))),(.ow (.cons I Z32)),(.ow (.cons I Z9))]))])
def gaho:Shps:=(shps [(.box Z2),(.box (shps [(.ow Z18),(.ow (.cons I (.cons I (.cons I (.cons I (.cons .bool (.cons .bool (.cons I (.cons I Z22))))))))),(.ow (.cons I Z32)),(.ow (.cons I Z9))]))])
theorem gahL:Ok [gabE,gacE,gafE,gagE]:=kc gabK (kc gacK (kc gafK (kc gagK k0)))
def gahk1:Cs:=(122,loopOf (shps [(.box Z2),(.box (shps [(.ow Z18),(.ow (.cons I (.cons I (.cons I (.cons I (.cons .bool (.cons .bool (.cons I (.cons I Z22))))))))),(.ow (.cons I Z32)),(.ow (.cons I Z9))])),(.box Z3),(.box Z3),J,J]) [0,1,4,5,6,7] [.exit 0 (shps [(.box Z2),(.box (shps [(.ow Z18),(.ow (.cons I (.cons I (.cons I (.cons I (.cons .bool (.cons .bool (.cons I (.cons I Z22))))))))),(.ow (.cons I Z32)),(.ow (.cons I Z9))])),(.box Z3),(.box Z3),J]) [0,1,4,5,6]] gah_122F) :: []
theorem gahc1:CutsOk tP gahC gahB gahk1 :=
 CutsOk.loop tM rfl gahL .nil _ _ _ _ _ (by kernel_rfl) (by kernel_rfl) fun x => by kernel_rfl
def gahk2:Cs:=(250,loopOf (shps [(.box Z2),(.box (shps [(.ow Z18),(.ow (.cons I (.cons I (.cons I (.cons I (.cons .bool (.cons .bool (.cons I (.cons I Z22))))))))),(.ow (.cons I Z32)),(.ow (.cons I Z9))])),(.box Z3),(.box Z3),J,J]) [0,1,4,5,6,8] [.exit 2 (shps [(.box Z2),(.box (shps [(.ow Z18),(.ow (.cons I (.cons I (.cons I (.cons I (.cons .bool (.cons .bool (.cons I (.cons I Z22))))))))),(.ow (.cons I Z32)),(.ow (.cons I Z9))])),(.box Z3),(.box Z3)]) [0,1,4,5]] gah_250F) :: gahk1
theorem gahc2:CutsOk tP gahC gahB gahk2 :=
 CutsOk.loop tM rfl gahL gahc1 _ _ _ _ _ (by kernel_rfl) (by kernel_rfl) fun x => by kernel_rfl
def gahE:Entry:=⟨72,gaha,(.agg Z3),gaho,fun x => gah x.1.1 x.1.2.1 x.2.1.1 x.2.1.2.1 x.2.1.2.2.1 x.2.1.2.2.2.1⟩
theorem gahK:EntryOk tP gahE :=
 entry_ok tM rfl gahL func72 (by kernel_rfl) (by kernel_rfl) gahc2 [] _ _ _ _ (fun x => by kernel_rfl) fun x => by kernel_rfl
def gaiC:Ctx:=⟨tP,71,0,[(1,[7,8,9,10,11,12,13,14,15,16,17,18,19,20]),(2,[22]),(3,[23]),(4,[25,26,27,28,29,30,31,32,33,34,35]),(5,[36,37,38,39,40,41,42,43,44]),(7,[45,46,47,48]),(9,[52,53,54,55,56,57,58,59,60,61,62,63,64,65,66,67,68,69]),(8,[50,51]),(10,[70])],[],[]⟩
def gaiB:=bd f110
def gaia:Shps:=(shps [(.agg Z13),J])
def gaio:Shps:=(shps [])
def gaik1:Cs:=(250,loopOf (shps [(.box Z13),(.box (shps [J,J])),(.box (shps [J,J])),J]) [2,4,5,6] [.exit 0 (shps [(.box (shps [J,J])),(.box (shps [J,J]))]) [4,5]] gai_250F) :: []
theorem gaic1:CutsOk tP gaiC gaiB gaik1 :=
 CutsOk.loop tM rfl k0 .nil _ _ _ _ _ (by kernel_rfl) (by kernel_rfl) fun x => by kernel_rfl
def gaiE:Entry:=⟨110,gaia,(.agg (shps [J,J])),gaio,fun x => gai x.1.1 x.1.2.1 x.1.2.2.1 x.2.1⟩
theorem gaiK:EntryOk tP gaiE :=
 entry_ok tM rfl k0 func110 (by kernel_rfl) (by kernel_rfl) gaic1 [] _ _ _ _ (fun x => by kernel_rfl) fun x => by kernel_rfl
def gajC:Ctx:=⟨tP,16,0,[(1,[6,7,8]),(2,[9,10,11]),(3,[13,14]),(4,[15])],[],[]⟩
def gajB:=bd f89
def gaja:Shps:=(shps [J,J])
def gajo:Shps:=(shps [])
def gajE:Entry:=⟨89,gaja,J,gajo,fun x => gaj x.1 x.2.1⟩
theorem gajK:EntryOk tP gajE :=
 entry_ok tM rfl k0 func89 (by kernel_rfl) (by kernel_rfl) (CutsOk.nil (C:=gajC) (root:=gajB)) [] _ _ _ _ (fun x => by kernel_rfl) fun x => by kernel_rfl
def gakC:Ctx:=⟨tP,10,0,[(1,[5,6,7,8,9])],[],[]⟩
def gakB:=bd f90
def gaka:Shps:=(shps [J,J])
def gako:Shps:=(shps [])
theorem gakL:Ok [gajE]:=kc gajK k0
def gakE:Entry:=⟨90,gaka,J,gako,fun x => gak x.1 x.2.1⟩
theorem gakK:EntryOk tP gakE :=
 entry_ok tM rfl gakL func90 (by kernel_rfl) (by kernel_rfl) (CutsOk.nil (C:=gakC) (root:=gakB)) [] _ _ _ _ (fun x => by kernel_rfl) fun x => by kernel_rfl
def galC:Ctx:=⟨tP,106,0,[(1,[11,12,13]),(2,[14,15,16,17,18,19]),(3,[21,22,23,24,25,26,27,28,29,30,31]),(4,[32,33,34,35,36,37,38,39]),(5,[41,42,43,44,45,46,47,48,49,50,51,52,53,54,55]),(7,[56,57,58,59,60,61,62,63]),(8,[65,66]),(9,[67,68,69,70,71,72,73,74,75,76,77]),(10,[78,79,80,81,82,83,84,85,86,87,88,89,90,91,92]),(11,[93,94,95,96,97,98,99,100,101,102,103,104,105])],[],[]⟩
def galB:=bd f126
def gala:Shps:=(shps [(.agg Z27),J])
def galo:Shps:=(shps [])
theorem galL:Ok [gajE,gakE]:=kc gajK (kc gakK k0)
def galk1:Cs:=(252,loopOf (shps [J,(.box Z27),(.box (shps [J,J])),J]) [1,2,4,6] [.exit 0 (shps [J,(.box Z27),(.box (shps [J,J])),J]) [1,2,4,6]] gal_252F) :: []
theorem galc1:CutsOk tP galC galB galk1 :=
 CutsOk.loop tM rfl galL .nil _ _ _ _ _ (by kernel_rfl) (by kernel_rfl) fun x => by kernel_rfl
def galE:Entry:=⟨126,gala,(.agg (shps [J,J])),galo,fun x => gal x.1.1 x.1.2.1 x.1.2.2.1 x.1.2.2.2.1 x.2.1⟩
theorem galK:EntryOk tP galE :=
 entry_ok tM rfl galL func126 (by kernel_rfl) (by kernel_rfl) galc1 [] _ _ _ _ (fun x => by kernel_rfl) fun x => by kernel_rfl
def gamC:Ctx:=⟨tP,23,0,[(2,[9,10,11,12]),(3,[13,14,15,16,17,18,19]),(4,[20,21,22])],[],[]⟩
def gamB:=bd f122
def gama:Shps:=(shps [(.agg Z27),.bool,J])
def gamo:Shps:=(shps [])
theorem gamL:Ok [galE]:=kc galK k0
def gamE:Entry:=⟨122,gama,(.agg (shps [J,J])),gamo,fun x => gam x.1.1 x.1.2.1 x.1.2.2.1 x.1.2.2.2.1 x.2.1 x.2.2.1⟩
theorem gamK:EntryOk tP gamE :=
 entry_ok tM rfl gamL func122 (by kernel_rfl) (by kernel_rfl) (CutsOk.nil (C:=gamC) (root:=gamB)) [] _ _ _ _ (fun x => by kernel_rfl) fun x => by kernel_rfl
def ganC:Ctx:=⟨tP,45,0,[(2,[11]),(3,[12]),(4,[14]),(5,[15,16,17,18,19]),(6,[21]),(7,[22,23,24,25,26,27]),(8,[28,29,30,31,32,33]),(9,[34,35,36,37,38,39,40,41,42,43,44])],[],[]⟩
def ganB:=bd f111
def gana:Shps:=(shps [(.agg Z27),J,J])
def gano:Shps:=(shps [])
theorem ganL:Ok [gamE]:=kc gamK k0
def ganE:Entry:=⟨111,gana,(.agg (shps [J,J])),gano,fun x => gan x.1.1 x.1.2.1 x.1.2.2.1 x.1.2.2.2.1 x.2.1 x.2.2.1⟩
theorem ganK:EntryOk tP ganE :=
 entry_ok tM rfl ganL func111 (by kernel_rfl) (by kernel_rfl) (CutsOk.nil (C:=ganC) (root:=ganB)) [] _ _ _ _ (fun x => by kernel_rfl) fun x => by kernel_rfl
def gaoC:Ctx:=⟨tP,166,3,[(2,[15,16,17,18,19,20,21]),(4,[25,26,27,28,29,30,31]),(5,[32,33,34,35,36]),(6,[37,38,39,40,41,42,43,44,45,46,47,48,49,50,51,52,53,54,55,56]),(8,[57,58,59,60,61,62]),(10,[66,67,68,69,70,71,72,73,74]),(11,[76,77,78,79,80,81,82,83,84,85,86,87,88,89,90,91]),(9,[64,65]),(12,[92,93,94,95,96,97,98,99,100,101,102,103,104,105,106,107,108,109,110,111,112,113,114,115,116,117]),(14,[118,119,120,121,122,123]),(16,[127,128,129,130,131,132,133,134,135]),(17,[137,138,139,140,141,142,143,144,145,146,147,148,149,150,151,152,153]),(15,[125,126]),(18,[154,155,156,157,158,159,160,161,162,163,164,165]),(3,[23,24])],[],[]⟩
def gaoB:=bd f73
def gaoa:Shps:=(shps [(.box Z2),(.box (shps [(.ow Z18),(.ow (.cons I (.cons I (.cons I (.cons I (.cons .bool (.cons .bool (.cons I (.cons I Z22))))))))),(.ow (.cons I Z32)),(.ow (.cons I Z9))])),(.agg Z4),(.agg Z4)])
def gaoo:Shps:=(shps [(.box Z2),(.box (shps [(.ow Z18),(.ow (.cons I (.cons I (.cons I (.cons I (.cons .bool (.cons .bool (.cons I (.cons I Z22))))))))),(.ow (.cons I Z32)),(.ow (.cons I Z9))]))])
theorem gaoL:Ok [gabE,gaiE,ganE]:=kc gabK (kc gaiK (kc ganK k0))
def gaok1:Cs:=(14650,loopOf (shps [(.box Z2),(.box (shps [(.ow Z18),(.ow (.cons I (.cons I (.cons I (.cons I (.cons .bool (.cons .bool (.cons I (.cons I Z22))))))))),(.ow (.cons I Z32)),(.ow (.cons I Z9))])),(.box Z4),(.box Z4),J,(.rpe 1 (some 1) 0),J,J,J]) [0,1,6,7,8,9,10,11,12] [.exit 2 (shps [(.box Z2),(.box (shps [(.ow Z18),(.ow (.cons I (.cons I (.cons I (.cons I (.cons .bool (.cons .bool (.cons I (.cons I Z22))))))))),(.ow (.cons I Z32)),(.ow (.cons I Z9))])),(.box Z4),(.box Z4),J,(.rpe 1 (some 1) 0),J,J]) [0,1,6,7,8,9,10,11]] gao_14650F) :: []
theorem gaoc1:CutsOk tP gaoC gaoB gaok1 :=
 CutsOk.loop tM rfl gaoL .nil _ _ _ _ _ (by kernel_rfl) (by kernel_rfl) fun x => by kernel_rfl
def gaok2:Cs:=(58618,loopOf (shps [(.box Z2),(.box (shps [(.ow Z18),(.ow (.cons I (.cons I (.cons I (.cons I (.cons .bool (.cons .bool (.cons I (.cons I Z22))))))))),(.ow (.cons I Z32)),(.ow (.cons I Z9))])),(.box Z4),(.box Z4),J,(.rpe 1 (some 1) 0),J,J,J]) [0,1,6,7,8,9,10,13,14] [.exit 4 (shps [(.box Z2),(.box (shps [(.ow Z18),(.ow (.cons I (.cons I (.cons I (.cons I (.cons .bool (.cons .bool (.cons I (.cons I Z22))))))))),(.ow (.cons I Z32)),(.ow (.cons I Z9))])),(.box Z4),(.box Z4),J,(.rpe 1 (some 1) 0),J]) [0,1,6,7,8,9,13]] gao_58618F) :: gaok1
theorem gaoc2:CutsOk tP gaoC gaoB gaok2 :=
 CutsOk.loop tM rfl gaoL gaoc1 _ _ _ _ _ (by kernel_rfl) (by kernel_rfl) fun x => by kernel_rfl
def gaok3:Cs:=(14,loopOf (shps [(.box Z2),(.box (shps [(.ow Z18),(.ow (.cons I (.cons I (.cons I (.cons I (.cons .bool (.cons .bool (.cons I (.cons I Z22))))))))),(.ow (.cons I Z32)),(.ow (.cons I Z9))])),(.box Z4),(.box Z4),J]) [0,1,6,7,8] [.exit 0 (shps [(.box Z2),(.box (shps [(.ow Z18),(.ow (.cons I (.cons I (.cons I (.cons I (.cons .bool (.cons .bool (.cons I (.cons I Z22))))))))),(.ow (.cons I Z32)),(.ow (.cons I Z9))]))]) [0,1]] gao_14F) :: gaok2
theorem gaoc3:CutsOk tP gaoC gaoB gaok3 :=
 CutsOk.loop tM rfl gaoL gaoc2 _ _ _ _ _ (by kernel_rfl) (by kernel_rfl) fun x => by kernel_rfl
def gaoE:Entry:=⟨73,gaoa,(.tup (shps [])),gaoo,fun x => gao x.1.1 x.1.2.1 x.2.1.1 x.2.1.2.1 x.2.1.2.2.1 x.2.1.2.2.2.1 x.2.2.1.1 x.2.2.1.2.1 x.2.2.2.1.1 x.2.2.2.1.2.1⟩
theorem gaoK:EntryOk tP gaoE :=
 entry_ok tM rfl gaoL func73 (by kernel_rfl) (by kernel_rfl) gaoc3 [] _ _ _ _ (fun x => by kernel_rfl) fun x => by kernel_rfl
def gapC:Ctx:=⟨tP,53,1,[(0,[4]),(3,[12,13,14,15]),(5,[19,20,21,22,23]),(6,[24]),(8,[26,27,28,29,30,31]),(4,[17,18]),(10,[32,33,34,35]),(12,[39,40,41,42,43]),(13,[44]),(15,[46,47,48,49,50,51]),(11,[37,38]),(16,[52])],[],[]⟩
def gapB:=bd f74
def gapa:Shps:=(shps [(.box Z2),(.agg (shps [(.sl Z18),(.sl (.cons I (.cons I (.cons I (.cons I (.cons .bool (.cons .bool (.cons I (.cons I Z22))))))))),(.sl (.cons I Z32)),(.sl (.cons I Z9))])),(.agg Z5)])
def gapo:Shps:=(shps [(.box Z2)])
theorem gapL:Ok [gacE]:=kc gacK k0
def gapk1:Cs:=(3731,cutOf (shps [(.box Z2),(.box Z5),(.box Z3),(.box Z3),J,J]) [0,5,6,7,8,9] [.norm (shps [(.box Z2),(.box Z5),(.box Z3),(.box Z3),J]) [0,5,6,7,8]] fun x => gap_3731 x.1.1 x.1.2.1 x.2.1.1 x.2.1.2.1 x.2.2.1.1 x.2.2.1.2.1 x.2.2.2.1.1 x.2.2.2.1.2.1 x.2.2.2.2.1 x.2.2.2.2.2.1) :: []
theorem gapc1:CutsOk tP gapC gapB gapk1 :=
 CutsOk.cut tM rfl gapL .nil _ _ _ _ _ (by kernel_rfl) fun x => by kernel_rfl
def gapk2:Cs:=(58,loopOf (shps [(.box Z2),(.box Z5),(.box Z3),(.box Z3),J]) [0,5,6,7,8] [.exit 0 (shps [(.box Z2),(.box Z5),(.box Z3),(.box Z3)]) [0,5,6,7]] gap_58F) :: gapk1
theorem gapc2:CutsOk tP gapC gapB gapk2 :=
 CutsOk.loop tM rfl gapL gapc1 _ _ _ _ _ (by kernel_rfl) (by kernel_rfl) fun x => by kernel_rfl
def gapk3:Cs:=(7827,cutOf (shps [(.box Z2),(.box Z5),(.box Z3),(.box Z3),J,J]) [0,5,6,7,10,11] [.norm (shps [(.box Z2),(.box Z5),(.box Z3),(.box Z3),J]) [0,5,6,7,10]] fun x => gap_7827 x.1.1 x.1.2.1 x.2.1.1 x.2.1.2.1 x.2.2.1.1 x.2.2.1.2.1 x.2.2.2.1.1 x.2.2.2.1.2.1 x.2.2.2.2.1 x.2.2.2.2.2.1) :: gapk2
theorem gapc3:CutsOk tP gapC gapB gapk3 :=
 CutsOk.cut tM rfl gapL gapc2 _ _ _ _ _ (by kernel_rfl) fun x => by kernel_rfl
def gapk4:Cs:=(122,loopOf (shps [(.box Z2),(.box Z5),(.box Z3),(.box Z3),J]) [0,5,6,7,10] [.exit 2 (shps [(.box Z2),(.box Z3),(.box Z3)]) [0,6,7]] gap_122F) :: gapk3
theorem gapc4:CutsOk tP gapC gapB gapk4 :=
 CutsOk.loop tM rfl gapL gapc3 _ _ _ _ _ (by kernel_rfl) (by kernel_rfl) fun x => by kernel_rfl
def gapE:Entry:=⟨74,gapa,(.agg Z3),gapo,fun x => gap x.1.1 x.1.2.1 x.2.1.1 x.2.1.2.1 x.2.1.2.2.1 x.2.1.2.2.2.1 x.2.2.1.1 x.2.2.1.2.1⟩
theorem gapK:EntryOk tP gapE :=
 entry_ok tM rfl gapL func74 (by kernel_rfl) (by kernel_rfl) gapc4 [] _ _ _ _ (fun x => by kernel_rfl) fun x => by kernel_rfl
def gaqC:Ctx:=⟨tP,189,1,[(1,[20,21,22,23]),(2,[24]),(3,[26,27,28,29,30,31,32,33]),(4,[34,35,36,37]),(5,[38,39]),(6,[40]),(8,[44,45,46,47,48,49,50,51,52,53,54]),(7,[42,43]),(9,[55,56,57,58]),(10,[59,60,61]),(11,[62]),(12,[63,64]),(14,[68,69,70,71,72,73]),(13,[66,67]),(15,[74,75]),(16,[76]),(17,[78,79]),(18,[80]),(20,[84,85,86]),(21,[87,88,89,90,91,92,93,94,95,96,97,98]),(22,[99,100,101]),(23,[102,103]),(24,[104]),(26,[106,107,108,109,110,111,112,113,114,115,116,117,118,119]),(27,[120,121,122,123,124,125,126,127]),(28,[128,129,130,131,132,133,134,135]),(19,[82,83]),(29,[136]),(30,[137,138]),(32,[142,143,144,145,146,147,148,149,150,151,152]),(33,[153]),(34,[155,156,157,158,159,160,161,162]),(35,[163,164,165,166,167,168,169,170,171,172,173,174,175,176]),(31,[140,141]),(36,[177,178]),(37,[179,180,181,182]),(38,[183,184,185,186,187,188])],[73],[]⟩
def gaqB:=bd f40
def gaqa:Shps:=(shps [(.box Z2)])
def gaqo:Shps:=(shps [(.box Z2)])
theorem gaqL:Ok [gacE,gabE,gadE,gaeE,gahE,gaoE,gapE]:=kc gacK (kc gabK (kc gadK (kc gaeK (kc gahK (kc gaoK (kc gapK k0))))))
def gaqk1:Cs:=(250,loopOf (shps [(.box Z2),(.box (shps [(.ow Z18),(.ow (.cons I (.cons I (.cons I (.cons I (.cons .bool (.cons .bool (.cons I (.cons I Z22))))))))),(.ow (.cons I Z32)),(.ow (.cons I Z9))])),(.box Z3),(.box Z3),(.box (shps [(.ow Z18),(.ow (.cons I (.cons I (.cons I (.cons I (.cons .bool (.cons .bool (.cons I (.cons I Z22))))))))),(.ow (.cons I Z32)),(.ow (.cons I Z9))])),J,J]) [0,2,3,4,5,6,7] [.exit 0 (shps [(.box Z2),(.box (shps [(.ow Z18),(.ow (.cons I (.cons I (.cons I (.cons I (.cons .bool (.cons .bool (.cons I (.cons I Z22))))))))),(.ow (.cons I Z32)),(.ow (.cons I Z9))])),(.box Z3),(.box Z3),(.box (shps [(.ow Z18),(.ow (.cons I (.cons I (.cons I (.cons I (.cons .bool (.cons .bool (.cons I (.cons I Z22))))))))),(.ow (.cons I Z32)),(.ow (.cons I Z9))])),J]) [0,2,3,4,5,6]] gaq_250F) :: []
theorem gaqc1:CutsOk tP gaqC gaqB gaqk1 :=
 CutsOk.loop tM rfl gaqL .nil _ _ _ _ _ (by kernel_rfl) (by kernel_rfl) fun x => by kernel_rfl
def gaqk2:Cs:=(2042,loopOf (shps [(.box Z2),(.box (shps [(.ow Z18),(.ow (.cons I (.cons I (.cons I (.cons I (.cons .bool (.cons .bool (.cons I (.cons I Z22))))))))),(.ow (.cons I Z32)),(.ow (.cons I Z9))])),(.box Z3),(.box Z3),(.box (shps [(.ow Z18),(.ow (.cons I (.cons I (.cons I (.cons I (.cons .bool (.cons .bool (.cons I (.cons I Z22))))))))),(.ow (.cons I Z32)),(.ow (.cons I Z9))])),J,J,(.box Z3),J]) [0,2,3,4,5,6,8,9,10] [.exit 2 (shps [(.box Z2),(.box (shps [(.ow Z18),(.ow (.cons I (.cons I (.cons I (.cons I (.cons .bool (.cons .bool (.cons I (.cons I Z22))))))))),(.ow (.cons I Z32)),(.ow (.cons I Z9))])),(.box Z3),(.box Z3),(.box (shps [(.ow Z18),(.ow (.cons I (.cons I (.cons I (.cons I (.cons .bool (.cons .bool (.cons I (.cons I Z22))))))))),(.ow (.cons I Z32)),(.ow (.cons I Z9))])),J,J,(.box Z3)]) [0,2,3,4,5,6,8,9]] gaq_2042F) :: gaqk1
theorem gaqc2:CutsOk tP gaqC gaqB gaqk2 :=
 CutsOk.loop tM rfl gaqL gaqc1 _ _ _ _ _ (by kernel_rfl) (by kernel_rfl) fun x => by kernel_rfl
def gaqk3:Cs:=(16766111,cutOf (shps [(.box Z2),(.box (shps [(.ow Z18),(.ow (.cons I (.cons I (.cons I (.cons I (.cons .bool (.cons .bool (.cons I (.cons I Z22))))))))),(.ow (.cons I Z32)),(.ow (.cons I Z9))])),(.box Z3),(.box Z3),(.box (shps [(.ow Z18),(.ow (.cons I (.cons I (.cons I (.cons I (.cons .bool (.cons .bool (.cons I (.cons I Z22))))))))),(.ow (.cons I Z32)),(.ow (.cons I Z9))])),J,J,(.box Z3),(.ow (.one I)),J,(.box Z1),J]) [0,2,3,4,5,6,8,9,11,12,14,15] [.norm (shps [(.box Z2),(.box (shps [(.ow Z18),(.ow (.cons I (.cons I (.cons I (.cons I (.cons .bool (.cons .bool (.cons I (.cons I Z22))))))))),(.ow (.cons I Z32)),(.ow (.cons I Z9))])),(.box Z3),(.box Z3),(.box (shps [(.ow Z18),(.ow (.cons I (.cons I (.cons I (.cons I (.cons .bool (.cons .bool (.cons I (.cons I Z22))))))))),(.ow (.cons I Z32)),(.ow (.cons I Z9))])),J,J,(.box Z3),(.ow (.one I)),J]) [0,2,3,4,5,6,8,9,11,12]] fun x => gaq_16766111 x.1.1 x.1.2.1 x.2.1.1 x.2.1.2.1 x.2.1.2.2.1 x.2.1.2.2.2.1 x.2.2.1.1 x.2.2.1.2.1 x.2.2.2.1.1 x.2.2.2.1.2.1 x.2.2.2.2.1.1 x.2.2.2.2.1.2.1 x.2.2.2.2.1.2.2.1 x.2.2.2.2.1.2.2.2.1 x.2.2.2.2.2.1 x.2.2.2.2.2.2.1 x.2.2.2.2.2.2.2.1.1 x.2.2.2.2.2.2.2.1.2.1 x.2.2.2.2.2.2.2.2.1 x.2.2.2.2.2.2.2.2.2.1 x.2.2.2.2.2.2.2.2.2.2.1.1 x.2.2.2.2.2.2.2.2.2.2.1.2.1 x.2.2.2.2.2.2.2.2.2.2.1.2.2.1 x.2.2.2.2.2.2.2.2.2.2.1.2.2.2.1 x.2.2.2.2.2.2.2.2.2.2.1.2.2.2.2.1 x.2.2.2.2.2.2.2.2.2.2.1.2.2.2.2.2.1 x.2.2.2.2.2.2.2.2.2.2.1.2.2.2.2.2.2.1 x.2.2.2.2.2.2.2.2.2.2.1.2.2.2.2.2.2.2.1 x.2.2.2.2.2.2.2.2.2.2.1.2.2.2.2.2.2.2.2.1 x.2.2.2.2.2.2.2.2.2.2.1.2.2.2.2.2.2.2.2.2.1 x.2.2.2.2.2.2.2.2.2.2.2.1) :: gaqk2
theorem gaqc3:CutsOk tP gaqC gaqB gaqk3 :=
 CutsOk.cut tM rfl gaqL gaqc2 _ _ _ _ _ (by kernel_rfl) fun x => by kernel_rfl
def gaqk4:Cs:=(32746,loopOf (shps [(.box Z2),(.box (shps [(.ow Z18),(.ow (.cons I (.cons I (.cons I (.cons I (.cons .bool (.cons .bool (.cons I (.cons I Z22))))))))),(.ow (.cons I Z32)),(.ow (.cons I Z9))])),(.box Z3),(.box Z3),(.box (shps [(.ow Z18),(.ow (.cons I (.cons I (.cons I (.cons I (.cons .bool (.cons .bool (.cons I (.cons I Z22))))))))),(.ow (.cons I Z32)),(.ow (.cons I Z9))])),J,J,(.box Z3),(.ow (.one I)),J]) [0,2,3,4,5,6,8,9,11,12] [.exit 4 (shps [(.box Z2),(.box (shps [(.ow Z18),(.ow (.cons I (.cons I (.cons I (.cons I (.cons .bool (.cons .bool (.cons I (.cons I Z22))))))))),(.ow (.cons I Z32)),(.ow (.cons I Z9))])),(.box Z3),(.box Z3),(.box (shps [(.ow Z18),(.ow (.cons I (.cons I (.cons I (.cons I (.cons .bool (.cons .bool (.cons I (.cons I Z22))))))))),(.ow (.cons I Z32)),(.ow (.cons I Z9))])),J,J,(.box Z3),(.ow (.one I))]) [0,2,3,4,5,6,8,9,11]] gaq_32746F) :: gaqk3
theorem gaqc4:CutsOk tP gaqC gaqB gaqk4 :=
 CutsOk.loop tM rfl gaqL gaqc3 _ _ _ _ _ (by kernel_rfl) (by kernel_rfl) fun x => by kernel_rfl
def gaqk5:Cs:=(1048211,cutOf (shps [(.box Z2),(.box (shps [(.ow Z18),(.ow (.cons I (.cons I (.cons I (.cons I (.cons .bool (.cons .bool (.cons I (.cons I Z22))))))))),(.ow (.cons I Z32)),(.ow (.cons I Z9))])),(.box Z3),(.box Z3),(.box (shps [(.ow Z18),(.ow (.cons I (.cons I (.cons I (.cons I (.cons .bool (.cons .bool (.cons I (.cons I Z22))))))))),(.ow (.cons I Z32)),(.ow (.cons I Z9))])),J,J,(.box Z3),(.ow (.one I)),J,(.box Z1),J]) [0,2,3,4,5,6,8,9,11,16,17,18] [.norm (shps [(.box Z2),(.box (shps [(.ow Z18),(.ow (.cons I (.cons I (.cons I (.cons I (.cons .bool (.cons .bool (.cons I (.cons I Z22))))))))),(.ow (.cons I Z32)),(.ow (.cons I Z9))])),(.box Z3),(.box Z3),(.box (shps [(.ow Z18),(.ow (.cons I (.cons I (.cons I (.cons I (.cons .bool (.cons .bool (.cons I (.cons I Z22))))))))),(.ow (.cons I Z32)),(.ow (.cons I Z9))])),J,J,(.box Z3),(.ow (.one I)),J]) [0,2,3,4,5,6,8,9,11,16]] fun x => gaq_1048211 x.1.1 x.1.2.1 x.2.1.1 x.2.1.2.1 x.2.1.2.2.1 x.2.1.2.2.2.1 x.2.2.1.1 x.2.2.1.2.1 x.2.2.2.1.1 x.2.2.2.1.2.1 x.2.2.2.2.1.1 x.2.2.2.2.1.2.1 x.2.2.2.2.1.2.2.1 x.2.2.2.2.1.2.2.2.1 x.2.2.2.2.2.1 x.2.2.2.2.2.2.1 x.2.2.2.2.2.2.2.1.1 x.2.2.2.2.2.2.2.1.2.1 x.2.2.2.2.2.2.2.2.1 x.2.2.2.2.2.2.2.2.2.1 x.2.2.2.2.2.2.2.2.2.2.1.1 x.2.2.2.2.2.2.2.2.2.2.1.2.1 x.2.2.2.2.2.2.2.2.2.2.1.2.2.1 x.2.2.2.2.2.2.2.2.2.2.1.2.2.2.1 x.2.2.2.2.2.2.2.2.2.2.1.2.2.2.2.1 x.2.2.2.2.2.2.2.2.2.2.1.2.2.2.2.2.1 x.2.2.2.2.2.2.2.2.2.2.1.2.2.2.2.2.2.1 x.2.2.2.2.2.2.2.2.2.2.1.2.2.2.2.2.2.2.1 x.2.2.2.2.2.2.2.2.2.2.1.2.2.2.2.2.2.2.2.1 x.2.2.2.2.2.2.2.2.2.2.1.2.2.2.2.2.2.2.2.2.1 x.2.2.2.2.2.2.2.2.2.2.2.1) :: gaqk4
theorem gaqc5:CutsOk tP gaqC gaqB gaqk5 :=
 CutsOk.cut tM rfl gaqL gaqc4 _ _ _ _ _ (by kernel_rfl) fun x => by kernel_rfl
def gaqk6:Cs:=(16378,loopOf (shps [(.box Z2),(.box (shps [(.ow Z18),(.ow (.cons I (.cons I (.cons I (.cons I (.cons .bool (.cons .bool (.cons I (.cons I Z22))))))))),(.ow (.cons I Z32)),(.ow (.cons I Z9))])),(.box Z3),(.box Z3),(.box (shps [(.ow Z18),(.ow (.cons I (.cons I (.cons I (.cons I (.cons .bool (.cons .bool (.cons I (.cons I Z22))))))))),(.ow (.cons I Z32)),(.ow (.cons I Z9))])),J,J,(.box Z3),(.ow (.one I)),J]) [0,2,3,4,5,6,8,9,11,16] [.exit 6 (shps [(.box Z2),(.box (shps [(.ow Z18),(.ow (.cons I (.cons I (.cons I (.cons I (.cons .bool (.cons .bool (.cons I (.cons I Z22))))))))),(.ow (.cons I Z32)),(.ow (.cons I Z9))])),(.box Z3),(.box Z3),(.box (shps [(.ow Z18),(.ow (.cons I (.cons I (.cons I (.cons I (.cons .bool (.cons .bool (.cons I (.cons I Z22))))))))),(.ow (.cons I Z32)),(.ow (.cons I Z9))])),(.box Z3)]) [0,2,3,4,5,9]] gaq_16378F) :: gaqk5
theorem gaqc6:CutsOk tP gaqC gaqB gaqk6 :=
 CutsOk.loop tM rfl gaqL gaqc5 _ _ _ _ _ (by kernel_rfl) (by kernel_rfl) fun x => by kernel_rfl
def gaqk7:Cs:=(2047,cutOf (shps [(.box Z2),(.box (shps [(.ow Z18),(.ow (.cons I (.cons I (.cons I (.cons I (.cons .bool (.cons .bool (.cons I (.cons I Z22))))))))),(.ow (.cons I Z32)),(.ow (.cons I Z9))])),(.box Z3),(.box Z3),(.box (shps [(.ow Z18),(.ow (.cons I (.cons I (.cons I (.cons I (.cons .bool (.cons .bool (.cons I (.cons I Z22))))))))),(.ow (.cons I Z32)),(.ow (.cons I Z9))])),J,J,(.box Z3),(.ow (.one I))]) [0,2,3,4,5,6,8,9,11] [.ret (shps [(.box Z2),(.box (shps [(.ow Z18),(.ow (.cons I (.cons I (.cons I (.cons I (.cons .bool (.cons .bool (.cons I (.cons I Z22))))))))),(.ow (.cons I Z32)),(.ow (.cons I Z9))])),(.box Z3),(.box Z3)]) [0,2,3,4]] fun x => gaq_2047 x.1.1 x.1.2.1 x.2.1.1 x.2.1.2.1 x.2.1.2.2.1 x.2.1.2.2.2.1 x.2.2.1.1 x.2.2.1.2.1 x.2.2.2.1.1 x.2.2.2.1.2.1 x.2.2.2.2.1.1 x.2.2.2.2.1.2.1 x.2.2.2.2.1.2.2.1 x.2.2.2.2.1.2.2.2.1 x.2.2.2.2.2.1 x.2.2.2.2.2.2.1 x.2.2.2.2.2.2.2.1.1 x.2.2.2.2.2.2.2.1.2.1 x.2.2.2.2.2.2.2.2.1) :: gaqk6
theorem gaqc7:CutsOk tP gaqC gaqB gaqk7 :=
 CutsOk.cut tM rfl gaqL gaqc6 _ _ _ _ _ (by kernel_rfl) fun x => by kernel_rfl
def gaqk8:Cs:=(15,cutOf (shps [(.box Z2),(.box (shps [(.ow Z18),(.ow (.cons I (.cons I (.cons I (.cons I (.cons .bool (.cons .bool (.cons I (.cons I Z22))))))))),(.ow (.cons I Z32)),(.ow (.cons I Z9))])),(.box Z3),(.box Z3),(.box (shps [(.ow Z18),(.ow (.cons I (.cons I (.cons I (.cons I (.cons .bool (.cons .bool (.cons I (.cons I Z22))))))))),(.ow (.cons I Z32)),(.ow (.cons I Z9))]))]) [0,2,3,4,5] [.ret (shps [(.box Z2),(.box (shps [(.ow Z18),(.ow (.cons I (.cons I (.cons I (.cons I (.cons .bool (.cons .bool (.cons I (.cons I Z22))))))))),(.ow (.cons I Z32)),(.ow (.cons I Z9))])),(.box Z3),(.box Z3)]) [0,2,3,4]] fun x => gaq_15 x.1.1 x.1.2.1 x.2.1.1 x.2.1.2.1 x.2.1.2.2.1 x.2.1.2.2.2.1 x.2.2.1.1 x.2.2.1.2.1 x.2.2.2.1.1 x.2.2.2.1.2.1 x.2.2.2.2.1.1 x.2.2.2.2.1.2.1 x.2.2.2.2.1.2.2.1 x.2.2.2.2.1.2.2.2.1) :: gaqk7
theorem gaqc8:CutsOk tP gaqC gaqB gaqk8 :=
 CutsOk.cut tM rfl gaqL gaqc7 _ _ _ _ _ (by kernel_rfl) fun x => by kernel_rfl
def gaqE:Entry:=⟨40,gaqa,(.tup (shps [(.agg (shps [(.ow Z18),(.sl (.cons I (.cons I (.cons I (.cons I (.cons .bool (.cons .bool (.cons I (.cons I Z22))))))))),(.sl (.cons I Z32)),(.sl (.cons I Z9))])),(.agg Z3),(.agg Z3)])),gaqo,fun x => gaq x.1.1 x.1.2.1⟩
theorem gaqK:EntryOk tP gaqE :=
 entry_ok tM rfl gaqL func40 (by kernel_rfl) (by kernel_rfl) gaqc8 [14] _ _ _ _ (fun x => by kernel_rfl) fun x => by kernel_rfl
def garC:Ctx:=⟨tP,5,0,[(1,[3,4])],[],[]⟩
def garB:=bd f38
def gara:Shps:=(shps [J])
def garo:Shps:=(shps [])
def garE:Entry:=⟨38,gara,.bool,garo,fun x => gar x.1⟩
theorem garK:EntryOk tP garE :=
 entry_ok tM rfl k0 func38 (by kernel_rfl) (by kernel_rfl) (CutsOk.nil (C:=garC) (root:=garB)) [] _ _ _ _ (fun x => by kernel_rfl) fun x => by kernel_rfl
def gasC:Ctx:=⟨tP,32,1,[(1,[10,11,12,13,14,15]),(2,[16,17]),(3,[19,20,21,22,23,24]),(4,[25,26,27,28,29,30]),(5,[31])],[],[]⟩
def gasB:=bd f41
def gasa:Shps:=(shps [(.box Z2),J,J,J])
def gaso:Shps:=(shps [(.box Z2)])
theorem gasL:Ok [gadE,garE,gabE]:=kc gadK (kc garK (kc gabK k0))
def gasE:Entry:=⟨41,gasa,(.agg Z10),gaso,fun x => gas x.1.1 x.1.2.1 x.2.1 x.2.2.1 x.2.2.2.1⟩
theorem gasK:EntryOk tP gasE :=
 entry_ok tM rfl gasL func41 (by kernel_rfl) (by kernel_rfl) (CutsOk.nil (C:=gasC) (root:=gasB)) [] _ _ _ _ (fun x => by kernel_rfl) fun x => by kernel_rfl
def gatC:Ctx:=⟨tP,15,1,[(1,[4,5,6,7,8]),(2,[9,10,11,12,13]),(3,[14])],[],[]⟩
def gatB:=bd f75
def gata:Shps:=(shps [(.box Z2)])
def gato:Shps:=(shps [(.box Z2)])
theorem gatL:Ok [gadE,gabE]:=kc gadK (kc gabK k0)
def gatE:Entry:=⟨75,gata,(.agg Z25),gato,fun x => gat x.1.1 x.1.2.1⟩
theorem gatK:EntryOk tP gatE :=
 entry_ok tM rfl gatL func75 (by kernel_rfl) (by kernel_rfl) (CutsOk.nil (C:=gatC) (root:=gatB)) [] _ _ _ _ (fun x => by kernel_rfl) fun x => by kernel_rfl
def gauC:Ctx:=⟨tP,54,1,[(1,[8,9,10,11,12,13,14]),(2,[15,16]),(4,[18,19,20,21]),(6,[25,26,27,28,29,30]),(7,[32,33]),(8,[34]),(5,[23,24]),(9,[35]),(10,[36,37,38]),(11,[39,40]),(12,[42,43,44,45,46]),(13,[47]),(15,[49,50,51,52]),(16,[53])],[],[]⟩
def gauB:=bd f42
def gaua:Shps:=(shps [(.box Z2),(.agg (shps [(.sl Z18),(.sl (.cons I (.cons I (.cons I (.cons I (.cons .bool (.cons .bool (.cons I (.cons I Z22))))))))),(.sl (.cons I Z32)),(.sl (.cons I Z9)),(.sl (.cons I (.cons I (.cons I (.cons I (.cons I (.cons I Z22))))))),(.sl (.cons I (.cons I (.cons I (.cons I Z22))))),(.sl (.cons (.sl (.cons I (.cons I Z22))) (.cons I Z11))),(.sl (.one I))]))])
def gauo:Shps:=(shps [(.box Z2)])
theorem gauL:Ok [gadE,gatE,gabE]:=kc gadK (kc gatK (kc gabK k0))
def gauk1:Cs:=(466,loopOf (shps [(.box Z2),(.box (shps [(.sl Z18),(.sl (.cons I (.cons I (.cons I (.cons I (.cons .bool (.cons .bool (.cons I (.cons I Z22))))))))),(.sl (.cons I Z32)),(.sl (.cons I Z9)),(.sl (.cons I (.cons I (.cons I (.cons I (.cons I (.cons I Z22))))))),(.sl (.cons I (.cons I (.cons I (.cons I Z22))))),(.sl (.cons (.sl (.cons I (.cons I Z22))) (.cons I Z11))),(.sl (.one I))])),(.box Z17),(.box Z17),J]) [0,3,4,5,6] [.ret (shps [(.box Z2),(.box Z17)]) [0,4],.exit 0 (shps [(.box Z2),(.box (shps [(.sl Z18),(.sl (.cons I (.cons I (.cons I (.cons I (.cons .bool (.cons .bool (.cons I (.cons I Z22))))))))),(.sl (.cons I Z32)),(.sl (.cons I Z9)),(.sl (.cons I (.cons I (.cons I (.cons I (.cons I (.cons I Z22))))))),(.sl (.cons I (.cons I (.cons I (.cons I Z22))))),(.sl (.cons (.sl (.cons I (.cons I Z22))) (.cons I Z11))),(.sl (.one I))])),(.box Z17),(.box Z17)]) [0,3,4,5]] gau_466F) :: []
theorem gauc1:CutsOk tP gauC gauB gauk1 :=
 CutsOk.loop tM rfl gauL .nil _ _ _ _ _ (by kernel_rfl) (by kernel_rfl) fun x => by kernel_rfl
def gauk2:Cs:=(127,cutOf (shps [(.box Z2),(.box Z17),(.box Z17),J]) [0,4,5,7] [.ret (shps [(.box Z2),(.box Z17)]) [0,4]] fun x => gau_127 x.1.1 x.1.2.1 x.2.1.1 x.2.1.2.1 x.2.1.2.2.1 x.2.1.2.2.2.1 x.2.1.2.2.2.2.1 x.2.1.2.2.2.2.2.1 x.2.2.1.1 x.2.2.1.2.1 x.2.2.1.2.2.1 x.2.2.1.2.2.2.1 x.2.2.1.2.2.2.2.1 x.2.2.1.2.2.2.2.2.1 x.2.2.2.1) :: gauk1
theorem gauc2:CutsOk tP gauC gauB gauk2 :=
 CutsOk.cut tM rfl gauL gauc1 _ _ _ _ _ (by kernel_rfl) fun x => by kernel_rfl
def gauk3:Cs:=(63,cutOf (shps [(.box Z2),(.box Z17),(.box Z17),J]) [0,4,5,7] [.ret (shps [(.box Z2),(.box Z17)]) [0,4]] fun x => gau_63 x.1.1 x.1.2.1 x.2.1.1 x.2.1.2.1 x.2.1.2.2.1 x.2.1.2.2.2.1 x.2.1.2.2.2.2.1 x.2.1.2.2.2.2.2.1 x.2.2.1.1 x.2.2.1.2.1 x.2.2.1.2.2.1 x.2.2.1.2.2.2.1 x.2.2.1.2.2.2.2.1 x.2.2.1.2.2.2.2.2.1 x.2.2.2.1) :: gauk2
theorem gauc3:CutsOk tP gauC gauB gauk3 :=
 CutsOk.cut tM rfl gauL gauc2 _ _ _ _ _ (by kernel_rfl) fun x => by kernel_rfl
def gauk4:Cs:=(15,cutOf (shps [(.box Z2),(.box (shps [(.sl Z18),(.sl (.cons I (.cons I (.cons I (.cons I (.cons .bool (.cons .bool (.cons I (.cons I Z22))))))))),(.sl (.cons I Z32)),(.sl (.cons I Z9)),(.sl (.cons I (.cons I (.cons I (.cons I (.cons I (.cons I Z22))))))),(.sl (.cons I (.cons I (.cons I (.cons I Z22))))),(.sl (.cons (.sl (.cons I (.cons I Z22))) (.cons I Z11))),(.sl (.one I))])),(.box Z17),(.box Z17)]) [0,3,4,5] [.ret (shps [(.box Z2),(.box Z17)]) [0,4]] fun x => gau_15 x.1.1 x.1.2.1 x.2.1.1 x.2.1.2.1 x.2.1.2.2.1 x.2.1.2.2.2.1 x.2.1.2.2.2.2.1 x.2.1.2.2.2.2.2.1 x.2.1.2.2.2.2.2.2.1 x.2.1.2.2.2.2.2.2.2.1 x.2.2.1.1 x.2.2.1.2.1 x.2.2.1.2.2.1 x.2.2.1.2.2.2.1 x.2.2.1.2.2.2.2.1 x.2.2.1.2.2.2.2.2.1 x.2.2.2.1.1 x.2.2.2.1.2.1 x.2.2.2.1.2.2.1 x.2.2.2.1.2.2.2.1 x.2.2.2.1.2.2.2.2.1 x.2.2.2.1.2.2.2.2.2.1) :: gauk3
theorem gauc4:CutsOk tP gauC gauB gauk4 :=
 CutsOk.cut tM rfl gauL gauc3 _ _ _ _ _ (by kernel_rfl) fun x => by kernel_rfl
def gauE:Entry:=⟨42,gaua,(.agg Z17),gauo,fun x => gau x.1.1 x.1.2.1 x.2.1.1 x.2.1.2.1 x.2.1.2.2.1 x.2.1.2.2.2.1 x.2.1.2.2.2.2.1 x.2.1.2.2.2.2.2.1 x.2.1.2.2.2.2.2.2.1 x.2.1.2.2.2.2.2.2.2.1⟩
theorem gauK:EntryOk tP gauE :=
 entry_ok tM rfl gauL func42 (by kernel_rfl) (by kernel_rfl) gauc4 [] _ _ _ _ (fun x => by kernel_rfl) fun x => by kernel_rfl
def gavC:Ctx:=⟨tP,106,1,[(1,[11,12,13,14,15,16]),(2,[18,19,20,21,22]),(3,[23,24,25,26,27]),(4,[28]),(5,[30,31,32,33,34,35,36]),(6,[37,38,39,40,41]),(8,[42,43,44]),(10,[48,49,50,51,52]),(11,[54,55,56,57,58,59,60,61,62,63]),(12,[64,65,66,67,68,69,70,71,72,73,74,75,76]),(13,[78,79,80,81,82,83,84,85,86,87]),(9,[46,47]),(14,[88,89,90,91,92]),(15,[93,94,95,96,97,98,99,100,101,102,103,104,105])],[],[1]⟩
def gavB:=bd f43
def gava:Shps:=(shps [(.box Z2),J,J])
def gavo:Shps:=(shps [(.box Z2)])
def gavR (rec:((List Int×Int×Unit)×Int×Int×Unit)→Option (List (Int×Int×Int×Int)×((List Int×Int×Unit)×Unit))):Entry:=⟨43,gava,(.ow (.cons I (.cons I Z22))),gavo,rec⟩
def gavO (rec:((List Int×Int×Unit)×Int×Int×Unit)→Option (List (Int×Int×Int×Int)×((List Int×Int×Unit)×Unit))):List Entry:=[gavR rec,gabE,gacE,gadE]
theorem gavL (rec:((List Int×Int×Unit)×Int×Int×Unit)→Option (List (Int×Int×Int×Int)×((List Int×Int×Unit)×Unit))) (hrec:EntryOk tP (gavR rec)):∀ e∈(gavO rec),EntryOk tP e:=by
 intro e he
 simp only [gavO,List.mem_cons,List.not_mem_nil,or_false] at he
 rcases he with rfl | rfl | rfl | rfl
 ·exact hrec
 ·exact gabK
 ·exact gacK
 ·exact gadK
def gavk0 (rec:((List Int×Int×Unit)×Int×Int×Unit)→Option (List (Int×Int×Int×Int)×((List Int×Int×Unit)×Unit))):List (Nat×Cut):=[]
theorem gavc0 (rec:((List Int×Int×Unit)×Int×Int×Unit)→Option (List (Int×Int×Int×Int)×((List Int×Int×Unit)×Unit))) (hrec:EntryOk tP (gavR rec)):CutsOk tP gavC gavB (gavk0 rec):=CutsOk.nil
def gav_16201s:Shps:=(shps [(.box Z2),(.ow (.cons I (.cons I Z22))),(.ow (.cons I (.cons I Z22))),J])
def gav_16201w:List Way:=[.norm (shps [(.box Z2),(.ow (.cons I (.cons I Z22))),(.ow (.cons I (.cons I Z22))),J]) [0,7,8,9]]
def gavk1 (rec:((List Int×Int×Unit)×Int×Int×Unit)→Option (List (Int×Int×Int×Int)×((List Int×Int×Unit)×Unit))):List (Nat×Cut):=(16201,cutOf gav_16201s [0,7,8,9] gav_16201w fun x => gav_16201 rec x.1.1 x.1.2.1 x.2.1 x.2.2.1 x.2.2.2.1) :: (gavk0 rec)
theorem gavc1 (rec:((List Int×Int×Unit)×Int×Int×Unit)→Option (List (Int×Int×Int×Int)×((List Int×Int×Unit)×Unit))) (hrec:EntryOk tP (gavR rec)):CutsOk tP gavC gavB (gavk1 rec) :=
 CutsOk.cut tM rfl (gavL rec hrec) (gavc0 rec hrec) 16201 gav_16201s [0,7,8,9] gav_16201w (fun x => gav_16201 rec x.1.1 x.1.2.1 x.2.1 x.2.2.1 x.2.2.2.1) (by kernel_rfl) fun x => by kernel_rfl
def gav_506s:Shps:=(shps [(.box Z2),(.ow (.cons I (.cons I Z22))),(.ow (.cons I (.cons I Z22))),J])
def gav_506w:List Way:=[.exit 0 (shps [(.box Z2),(.ow (.cons I (.cons I Z22))),(.ow (.cons I (.cons I Z22)))]) [0,7,8]]
def gavk2 (rec:((List Int×Int×Unit)×Int×Int×Unit)→Option (List (Int×Int×Int×Int)×((List Int×Int×Unit)×Unit))):List (Nat×Cut):=(506,loopOf gav_506s [0,7,8,9] gav_506w (gav_506F rec)) :: (gavk1 rec)
theorem gavc2 (rec:((List Int×Int×Unit)×Int×Int×Unit)→Option (List (Int×Int×Int×Int)×((List Int×Int×Unit)×Unit))) (hrec:EntryOk tP (gavR rec)):CutsOk tP gavC gavB (gavk2 rec) :=
 CutsOk.loop tM rfl (gavL rec hrec) (gavc1 rec hrec) 506 gav_506s [0,7,8,9] gav_506w (gav_506F rec) (by kernel_rfl) (by kernel_rfl) fun x => by kernel_rfl
theorem gavKb (rec:((List Int×Int×Unit)×Int×Int×Unit)→Option (List (Int×Int×Int×Int)×((List Int×Int×Unit)×Unit))) (hrec:EntryOk tP (gavR rec)):EntryOk tP ⟨43,gava,(.ow (.cons I (.cons I Z22))),gavo,fun x => gavb rec x.1.1 x.1.2.1 x.2.1 x.2.2.1⟩ :=
 entry_ok tM rfl (gavL rec hrec) (fn:=f43) func43 (by kernel_rfl) (root:=gavB) (by kernel_rfl) (gavc2 rec hrec) [] gava (.ow (.cons I (.cons I Z22))) gavo (fun x => gavb rec x.1.1 x.1.2.1 x.2.1 x.2.2.1) (fun x => by kernel_rfl) fun x => by kernel_rfl
theorem gavKi:∀ n,EntryOk tP (gavR (gavi n))
 | 0 => fun x y h => by cases h
 | n + 1 => gavKb (gavi n) (gavKi n)
def gavE:Entry:=⟨43,gava,(.ow (.cons I (.cons I Z22))),gavo,fun x => gav x.1.1 x.1.2.1 x.2.1 x.2.2.1⟩
theorem gavK:EntryOk tP gavE:=gavKi 1000000
def gawC:Ctx:=⟨tP,181,1,[(1,[18,19,20,21,22,23]),(2,[24,25]),(3,[26,27,28,29]),(4,[31,32,33,34,35,36,37,38,39,40]),(5,[41,42,43,44,45,46,47,48,49,50,51,52]),(6,[53,54,55,56,57,58,59]),(7,[60,61,62,63,64]),(8,[65,66]),(9,[67]),(11,[71,72]),(12,[73,74,75,76,77,78,79,80,81,82,83,84,85,86]),(10,[69,70]),(14,[87,88,89,90]),(16,[94,95,96,97,98,99,100,101,102,103,104]),(15,[92,93]),(18,[105,106,107,108]),(20,[112,113,114,115,116,117,118,119,120,121,122]),(19,[110,111]),(21,[123,124]),(22,[125]),(24,[129,130,131,132,133,134,135,136]),(23,[127,128]),(25,[137,138]),(26,[139]),(28,[143,144,145,146,147,148,149,150,151,152]),(30,[153,154]),(32,[158]),(33,[160,161,162,163,164,165]),(31,[156,157]),(34,[166,167,168,169,170,171]),(27,[141,142]),(35,[172,173,174,175,176,177]),(36,[178,179,180])],[],[]⟩
def gawB:=bd f12
def gawa:Shps:=(shps [(.box Z2)])
def gawo:Shps:=(shps [(.box Z2)])
theorem gawL:Ok [gaqE,gadE,gabE,gasE,gauE,gavE,gacE]:=kc gaqK (kc gadK (kc gabK (kc gasK (kc gauK (kc gavK (kc gacK k0))))))
def gawk1:Cs:=(506,loopOf (shps [(.box Z2),(.box (shps [(.ow Z18),(.ow (.cons I (.cons I (.cons I (.cons I (.cons .bool (.cons .bool (.cons I (.cons I Z22))))))))),(.ow (.cons I Z32)),(.ow (.cons I Z9)),(.ow (.cons I (.cons I (.cons I (.cons I (.cons I (.cons I Z22))))))),(.ow (.cons I (.cons I (.cons I (.cons I Z22))))),(.ow (.cons (.sl (.cons I (.cons I Z22))) (.cons I Z11))),(.ow (.one I))])),(.box Z3),(.box Z3),(.box (shps [.junk,(.sl (.cons I (.cons I (.cons I (.cons I (.cons .bool (.cons .bool (.cons I (.cons I Z22))))))))),(.sl (.cons I Z32)),(.sl (.cons I Z9))])),(.box Z3),(.box Z3),(.box (shps [(.ow Z18),(.sl (.cons I (.cons I (.cons I (.cons I (.cons .bool (.cons .bool (.cons I (.cons I Z22))))))))),(.sl (.cons I Z32)),(.sl (.cons I Z9)),(.ow (.cons I (.cons I (.cons I (.cons I (.cons I (.cons I Z22))))))),(.ow (.cons I (.cons I (.cons I (.cons I Z22))))),(.ow (.cons (.sl (.cons I (.cons I Z22))) (.cons I Z11))),(.ow (.one I))])),J,J]) [0,2,3,4,5,6,7,8,9,10] [.exit 0 (shps [(.box Z2),(.box (shps [(.ow Z18),(.ow (.cons I (.cons I (.cons I (.cons I (.cons .bool (.cons .bool (.cons I (.cons I Z22))))))))),(.ow (.cons I Z32)),(.ow (.cons I Z9)),(.ow (.cons I (.cons I (.cons I (.cons I (.cons I (.cons I Z22))))))),(.ow (.cons I (.cons I (.cons I (.cons I Z22))))),(.ow (.cons (.sl (.cons I (.cons I Z22))) (.cons I Z11))),(.ow (.one I))])),(.box Z3),(.box Z3),(.box (shps [.junk,(.sl (.cons I (.cons I (.cons I (.cons I (.cons .bool (.cons .bool (.cons I (.cons I Z22))))))))),(.sl (.cons I Z32)),(.sl (.cons I Z9))])),(.box Z3),(.box Z3),(.box (shps [(.ow Z18),(.sl (.cons I (.cons I (.cons I (.cons I (.cons .bool (.cons .bool (.cons I (.cons I Z22))))))))),(.sl (.cons I Z32)),(.sl (.cons I Z9)),(.ow (.cons I (.cons I (.cons I (.cons I (.cons I (.cons I Z22))))))),(.ow (.cons I (.cons I (.cons I (.cons I Z22))))),(.ow (.cons (.sl (.cons I (.cons I Z22))) (.cons I Z11))),(.ow (.one I))])),J]) [0,2,3,4,5,6,7,8,9]] gaw_506F) :: []
theorem gawc1:CutsOk tP gawC gawB gawk1 :=
 CutsOk.loop tM rfl gawL .nil _ _ _ _ _ (by kernel_rfl) (by kernel_rfl) fun x => by kernel_rfl
def gawk2:Cs:=(1018,loopOf (shps [(.box Z2),(.box (shps [(.ow Z18),(.ow (.cons I (.cons I (.cons I (.cons I (.cons .bool (.cons .bool (.cons I (.cons I Z22))))))))),(.ow (.cons I Z32)),(.ow (.cons I Z9)),(.ow (.cons I (.cons I (.cons I (.cons I (.cons I (.cons I Z22))))))),(.ow (.cons I (.cons I (.cons I (.cons I Z22))))),(.ow (.cons (.sl (.cons I (.cons I Z22))) (.cons I Z11))),(.ow (.one I))])),(.box Z3),(.box Z3),(.box (shps [.junk,(.sl (.cons I (.cons I (.cons I (.cons I (.cons .bool (.cons .bool (.cons I (.cons I Z22))))))))),(.sl (.cons I Z32)),(.sl (.cons I Z9))])),(.box Z3),(.box Z3),(.box (shps [(.ow Z18),(.sl (.cons I (.cons I (.cons I (.cons I (.cons .bool (.cons .bool (.cons I (.cons I Z22))))))))),(.sl (.cons I Z32)),(.sl (.cons I Z9)),(.ow (.cons I (.cons I (.cons I (.cons I (.cons I (.cons I Z22))))))),(.ow (.cons I (.cons I (.cons I (.cons I Z22))))),(.ow (.cons (.sl (.cons I (.cons I Z22))) (.cons I Z11))),(.ow (.one I))])),J,J]) [0,2,3,4,5,6,7,8,9,12] [.exit 2 (shps [(.box Z2),(.box (shps [(.ow Z18),(.ow (.cons I (.cons I (.cons I (.cons I (.cons .bool (.cons .bool (.cons I (.cons I Z22))))))))),(.ow (.cons I Z32)),(.ow (.cons I Z9)),(.ow (.cons I (.cons I (.cons I (.cons I (.cons I (.cons I Z22))))))),(.ow (.cons I (.cons I (.cons I (.cons I Z22))))),(.ow (.cons (.sl (.cons I (.cons I Z22))) (.cons I Z11))),(.ow (.one I))])),(.box Z3),(.box Z3),(.box (shps [.junk,(.sl (.cons I (.cons I (.cons I (.cons I (.cons .bool (.cons .bool (.cons I (.cons I Z22))))))))),(.sl (.cons I Z32)),(.sl (.cons I Z9))])),(.box Z3),(.box Z3),(.box (shps [(.ow Z18),(.sl (.cons I (.cons I (.cons I (.cons I (.cons .bool (.cons .bool (.cons I (.cons I Z22))))))))),(.sl (.cons I Z32)),(.sl (.cons I Z9)),(.ow (.cons I (.cons I (.cons I (.cons I (.cons I (.cons I Z22))))))),(.ow (.cons I (.cons I (.cons I (.cons I Z22))))),(.ow (.cons (.sl (.cons I (.cons I Z22))) (.cons I Z11))),(.ow (.one I))])),J]) [0,2,3,4,5,6,7,8,9]] gaw_1018F) :: gawk1
theorem gawc2:CutsOk tP gawC gawB gawk2 :=
 CutsOk.loop tM rfl gawL gawc1 _ _ _ _ _ (by kernel_rfl) (by kernel_rfl) fun x => by kernel_rfl
def gawk3:Cs:=(2042,loopOf (shps [(.box Z2),(.box (shps [(.ow Z18),(.ow (.cons I (.cons I (.cons I (.cons I (.cons .bool (.cons .bool (.cons I (.cons I Z22))))))))),(.ow (.cons I Z32)),(.ow (.cons I Z9)),(.ow (.cons I (.cons I (.cons I (.cons I (.cons I (.cons I Z22))))))),(.ow (.cons I (.cons I (.cons I (.cons I Z22))))),(.ow (.cons (.sl (.cons I (.cons I Z22))) (.cons I Z11))),(.ow (.one I))])),(.box Z3),(.box Z3),(.box (shps [.junk,(.sl (.cons I (.cons I (.cons I (.cons I (.cons .bool (.cons .bool (.cons I (.cons I Z22))))))))),(.sl (.cons I Z32)),(.sl (.cons I Z9))])),(.box Z3),(.box Z3),(.box (shps [(.ow Z18),(.sl (.cons I (.cons I (.cons I (.cons I (.cons .bool (.cons .bool (.cons I (.cons I Z22))))))))),(.sl (.cons I Z32)),(.sl (.cons I Z9)),(.ow (.cons I (.cons I (.cons I (.cons I (.cons I (.cons I Z22))))))),(.ow (.cons I (.cons I (.cons I (.cons I Z22))))),(.ow (.cons (.sl (.cons I (.cons I Z22))) (.cons I Z11))),(.ow (.one I))])),J,J]) [0,2,3,4,5,6,7,8,9,13] [.exit 4 (shps [(.box Z2),(.box (shps [(.ow Z18),(.ow (.cons I (.cons I (.cons I (.cons I (.cons .bool (.cons .bool (.cons I (.cons I Z22))))))))),(.ow (.cons I Z32)),(.ow (.cons I Z9)),(.ow (.cons I (.cons I (.cons I (.cons I (.cons I (.cons I Z22))))))),(.ow (.cons I (.cons I (.cons I (.cons I Z22))))),(.ow (.cons (.sl (.cons I (.cons I Z22))) (.cons I Z11))),(.ow (.one I))])),(.box Z3),(.box Z3),(.box Z3),(.box Z3),(.box (shps [(.ow Z18),(.sl (.cons I (.cons I (.cons I (.cons I (.cons .bool (.cons .bool (.cons I (.cons I Z22))))))))),(.sl (.cons I Z32)),(.sl (.cons I Z9)),(.ow (.cons I (.cons I (.cons I (.cons I (.cons I (.cons I Z22))))))),(.ow (.cons I (.cons I (.cons I (.cons I Z22))))),(.ow (.cons (.sl (.cons I (.cons I Z22))) (.cons I Z11))),(.ow (.one I))])),J]) [0,2,3,4,6,7,8,9]] gaw_2042F) :: gawk2
theorem gawc3:CutsOk tP gawC gawB gawk3 :=
 CutsOk.loop tM rfl gawL gawc2 _ _ _ _ _ (by kernel_rfl) (by kernel_rfl) fun x => by kernel_rfl
def gawk4:Cs:=(4090,loopOf (shps [(.box Z2),(.box (shps [(.ow Z18),(.ow (.cons I (.cons I (.cons I (.cons I (.cons .bool (.cons .bool (.cons I (.cons I Z22))))))))),(.ow (.cons I Z32)),(.ow (.cons I Z9)),(.ow (.cons I (.cons I (.cons I (.cons I (.cons I (.cons I Z22))))))),(.ow (.cons I (.cons I (.cons I (.cons I Z22))))),(.ow (.cons (.sl (.cons I (.cons I Z22))) (.cons I Z11))),(.ow (.one I))])),(.box Z3),(.box Z3),(.box Z3),(.box Z3),(.box (shps [(.ow Z18),(.sl (.cons I (.cons I (.cons I (.cons I (.cons .bool (.cons .bool (.cons I (.cons I Z22))))))))),(.sl (.cons I Z32)),(.sl (.cons I Z9)),(.ow (.cons I (.cons I (.cons I (.cons I (.cons I (.cons I Z22))))))),(.ow (.cons I (.cons I (.cons I (.cons I Z22))))),(.ow (.cons (.sl (.cons I (.cons I Z22))) (.cons I Z11))),(.ow (.one I))])),J,J]) [0,2,3,4,6,7,8,9,14] [.exit 6 (shps [(.box Z2),(.box (shps [(.ow Z18),(.ow (.cons I (.cons I (.cons I (.cons I (.cons .bool (.cons .bool (.cons I (.cons I Z22))))))))),(.ow (.cons I Z32)),(.ow (.cons I Z9)),(.ow (.cons I (.cons I (.cons I (.cons I (.cons I (.cons I Z22))))))),(.ow (.cons I (.cons I (.cons I (.cons I Z22))))),(.ow (.cons (.sl (.cons I (.cons I Z22))) (.cons I Z11))),(.ow (.one I))])),(.box Z3),(.box Z3),(.box Z3),(.box Z3),(.box (shps [(.ow Z18),(.sl (.cons I (.cons I (.cons I (.cons I (.cons .bool (.cons .bool (.cons I (.cons I Z22))))))))),(.sl (.cons I Z32)),(.sl (.cons I Z9)),(.ow (.cons I (.cons I (.cons I (.cons I (.cons I (.cons I Z22))))))),(.ow (.cons I (.cons I (.cons I (.cons I Z22))))),(.ow (.cons (.sl (.cons I (.cons I Z22))) (.cons I Z11))),(.ow (.one I))])),J]) [0,2,3,4,6,7,8,9]] gaw_4090F) :: gawk3
theorem gawc4:CutsOk tP gawC gawB gawk4 :=
 CutsOk.loop tM rfl gawL gawc3 _ _ _ _ _ (by kernel_rfl) (by kernel_rfl) fun x => by kernel_rfl
def gawk5:Cs:=(2095690,loopOf (shps [(.box Z2),(.box (shps [(.ow Z18),(.ow (.cons I (.cons I (.cons I (.cons I (.cons .bool (.cons .bool (.cons I (.cons I Z22))))))))),(.ow (.cons I Z32)),(.ow (.cons I Z9)),(.ow (.cons I (.cons I (.cons I (.cons I (.cons I (.cons I Z22))))))),(.ow (.cons I (.cons I (.cons I (.cons I Z22))))),(.ow (.cons (.sl (.cons I (.cons I Z22))) (.cons I Z11))),(.ow (.one I))])),(.box Z3),(.box Z3),(.box Z3),(.box Z3),(.box (shps [(.ow Z18),(.sl (.cons I (.cons I (.cons I (.cons I (.cons .bool (.cons .bool (.cons I (.cons I Z22))))))))),(.sl (.cons I Z32)),(.sl (.cons I Z9)),(.ow (.cons I (.cons I (.cons I (.cons I (.cons I (.cons I Z22))))))),(.ow (.cons I (.cons I (.cons I (.cons I Z22))))),(.ow (.cons (.sl (.cons I (.cons I Z22))) (.cons I Z11))),(.ow (.one I))])),J,J,(.box (shps [(.ow (.cons I (.cons I Z22))),J,(.ow (.one I)),J])),J]) [0,2,3,4,6,7,8,9,15,16,17] [.exit 10 (shps [(.box Z2),(.box (shps [(.ow Z18),(.ow (.cons I (.cons I (.cons I (.cons I (.cons .bool (.cons .bool (.cons I (.cons I Z22))))))))),(.ow (.cons I Z32)),(.ow (.cons I Z9)),(.ow (.cons I (.cons I (.cons I (.cons I (.cons I (.cons I Z22))))))),(.ow (.cons I (.cons I (.cons I (.cons I Z22))))),(.ow (.cons (.sl (.cons I (.cons I Z22))) (.cons I Z11))),(.ow (.one I))])),(.box Z3),(.box Z3),(.box Z3),(.box Z3),(.box (shps [(.ow Z18),(.sl (.cons I (.cons I (.cons I (.cons I (.cons .bool (.cons .bool (.cons I (.cons I Z22))))))))),(.sl (.cons I Z32)),(.sl (.cons I Z9)),(.ow (.cons I (.cons I (.cons I (.cons I (.cons I (.cons I Z22))))))),(.ow (.cons I (.cons I (.cons I (.cons I Z22))))),(.ow (.cons (.sl (.cons I (.cons I Z22))) (.cons I Z11))),(.ow (.one I))])),J,J,(.box (shps [(.ow (.cons I (.cons I Z22))),J,(.ow (.one I)),J]))]) [0,2,3,4,6,7,8,9,15,16]] gaw_2095690F) :: gawk4
theorem gawc5:CutsOk tP gawC gawB gawk5 :=
 CutsOk.loop tM rfl gawL gawc4 _ _ _ _ _ (by kernel_rfl) (by kernel_rfl) fun x => by kernel_rfl
def gawk6:Cs:=(8186,loopOf (shps [(.box Z2),(.box (shps [(.ow Z18),(.ow (.cons I (.cons I (.cons I (.cons I (.cons .bool (.cons .bool (.cons I (.cons I Z22))))))))),(.ow (.cons I Z32)),(.ow (.cons I Z9)),(.ow (.cons I (.cons I (.cons I (.cons I (.cons I (.cons I Z22))))))),(.ow (.cons I (.cons I (.cons I (.cons I Z22))))),(.ow (.cons (.sl (.cons I (.cons I Z22))) (.cons I Z11))),(.ow (.one I))])),(.box Z3),(.box Z3),(.box Z3),(.box Z3),(.box (shps [(.ow Z18),(.sl (.cons I (.cons I (.cons I (.cons I (.cons .bool (.cons .bool (.cons I (.cons I Z22))))))))),(.sl (.cons I Z32)),(.sl (.cons I Z9)),(.ow (.cons I (.cons I (.cons I (.cons I (.cons I (.cons I Z22))))))),(.ow (.cons I (.cons I (.cons I (.cons I Z22))))),(.ow (.cons (.sl (.cons I (.cons I Z22))) (.cons I Z11))),(.ow (.one I))])),J,J]) [0,2,3,4,6,7,8,9,15] [.exit 8 (shps [(.box Z2),(.box (shps [(.ow Z18),(.ow (.cons I (.cons I (.cons I (.cons I (.cons .bool (.cons .bool (.cons I (.cons I Z22))))))))),(.ow (.cons I Z32)),(.ow (.cons I Z9)),(.ow (.cons I (.cons I (.cons I (.cons I (.cons I (.cons I Z22))))))),(.ow (.cons I (.cons I (.cons I (.cons I Z22))))),(.ow (.cons (.sl (.cons I (.cons I Z22))) (.cons I Z11))),(.ow (.one I))])),(.box Z3),(.box Z3),(.box Z3),(.box Z3),(.box (shps [(.ow Z18),(.sl (.cons I (.cons I (.cons I (.cons I (.cons .bool (.cons .bool (.cons I (.cons I Z22))))))))),(.sl (.cons I Z32)),(.sl (.cons I Z9)),(.ow (.cons I (.cons I (.cons I (.cons I (.cons I (.cons I Z22))))))),(.ow (.cons I (.cons I (.cons I (.cons I Z22))))),(.ow (.cons (.sl (.cons I (.cons I Z22))) (.cons I Z11))),(.ow (.one I))]))]) [0,2,3,4,6,7,8]] gaw_8186F) :: gawk5
theorem gawc6:CutsOk tP gawC gawB gawk6 :=
 CutsOk.loop tM rfl gawL gawc5 _ _ _ _ _ (by kernel_rfl) (by kernel_rfl) fun x => by kernel_rfl
def gawk7:Cs:=(31,cutOf (shps [(.box Z2),(.box (shps [(.ow Z18),(.ow (.cons I (.cons I (.cons I (.cons I (.cons .bool (.cons .bool (.cons I (.cons I Z22))))))))),(.ow (.cons I Z32)),(.ow (.cons I Z9)),(.ow (.cons I (.cons I (.cons I (.cons I (.cons I (.cons I Z22))))))),(.ow (.cons I (.cons I (.cons I (.cons I Z22))))),(.ow (.cons (.sl (.cons I (.cons I Z22))) (.cons I Z11))),(.ow (.one I))])),(.box Z3),(.box Z3),(.box (shps [.junk,(.sl (.cons I (.cons I (.cons I (.cons I (.cons .bool (.cons .bool (.cons I (.cons I Z22))))))))),(.sl (.cons I Z32)),(.sl (.cons I Z9))])),(.box Z3),(.box Z3),(.box (shps [(.ow Z18),(.sl (.cons I (.cons I (.cons I (.cons I (.cons .bool (.cons .bool (.cons I (.cons I Z22))))))))),(.sl (.cons I Z32)),(.sl (.cons I Z9)),(.ow (.cons I (.cons I (.cons I (.cons I (.cons I (.cons I Z22))))))),(.ow (.cons I (.cons I (.cons I (.cons I Z22))))),(.ow (.cons (.sl (.cons I (.cons I Z22))) (.cons I Z11))),(.ow (.one I))]))]) [0,2,3,4,5,6,7,8] [.ret (shps [(.box Z2),(.box (shps [(.ow Z18),(.sl (.cons I (.cons I (.cons I (.cons I (.cons .bool (.cons .bool (.cons I (.cons I Z22))))))))),(.sl (.cons I Z32)),(.sl (.cons I Z9)),(.ow (.cons I (.cons I (.cons I (.cons I (.cons I (.cons I Z22))))))),(.ow (.cons I (.cons I (.cons I (.cons I Z22))))),(.ow (.cons (.sl (.cons I (.cons I Z22))) (.cons I Z11))),(.ow (.one I))])),(.box Z3),(.box Z3)]) [0,2,3,4]] fun x => gaw_31 x.1.1 x.1.2.1 x.2.1.1 x.2.1.2.1 x.2.1.2.2.1 x.2.1.2.2.2.1 x.2.1.2.2.2.2.1 x.2.1.2.2.2.2.2.1 x.2.1.2.2.2.2.2.2.1 x.2.1.2.2.2.2.2.2.2.1 x.2.2.1.1 x.2.2.1.2.1 x.2.2.2.1.1 x.2.2.2.1.2.1 x.2.2.2.2.1.2.1 x.2.2.2.2.1.2.2.1 x.2.2.2.2.1.2.2.2.1 x.2.2.2.2.2.1.1 x.2.2.2.2.2.1.2.1 x.2.2.2.2.2.2.1.1 x.2.2.2.2.2.2.1.2.1 x.2.2.2.2.2.2.2.1.1 x.2.2.2.2.2.2.2.1.2.1 x.2.2.2.2.2.2.2.1.2.2.1 x.2.2.2.2.2.2.2.1.2.2.2.1 x.2.2.2.2.2.2.2.1.2.2.2.2.1 x.2.2.2.2.2.2.2.1.2.2.2.2.2.1 x.2.2.2.2.2.2.2.1.2.2.2.2.2.2.1 x.2.2.2.2.2.2.2.1.2.2.2.2.2.2.2.1) :: gawk6
theorem gawc7:CutsOk tP gawC gawB gawk7 :=
 CutsOk.cut tM rfl gawL gawc6 _ _ _ _ _ (by kernel_rfl) fun x => by kernel_rfl
def gawE:Entry:=⟨12,gawa,(.tup (shps [(.agg (shps [(.ow Z18),(.sl (.cons I (.cons I (.cons I (.cons I (.cons .bool (.cons .bool (.cons I (.cons I Z22))))))))),(.sl (.cons I Z32)),(.sl (.cons I Z9)),(.ow (.cons I (.cons I (.cons I (.cons I (.cons I (.cons I Z22))))))),(.ow (.cons I (.cons I (.cons I (.cons I Z22))))),(.ow (.cons (.sl (.cons I (.cons I Z22))) (.cons I Z11))),(.ow (.one I))])),(.agg Z3),(.agg Z3)])),gawo,fun x => gaw x.1.1 x.1.2.1⟩
theorem gawK:EntryOk tP gawE :=
 entry_ok tM rfl gawL func12 (by kernel_rfl) (by kernel_rfl) gawc7 [] _ _ _ _ (fun x => by kernel_rfl) fun x => by kernel_rfl
def gaxC:Ctx:=⟨tP,24,0,[(1,[7,8,9,10,11,12,13,14,15,16,17,18,19,20,21,22,23])],[],[]⟩
def gaxB:=bd f114
def gaxa:Shps:=(shps [(.agg (shps [J,J])),J,J])
def gaxo:Shps:=(shps [])
def gaxE:Entry:=⟨114,gaxa,.bool,gaxo,fun x => gax x.1.1 x.1.2.1 x.2.1 x.2.2.1⟩
theorem gaxK:EntryOk tP gaxE :=
 entry_ok tM rfl k0 func114 (by kernel_rfl) (by kernel_rfl) (CutsOk.nil (C:=gaxC) (root:=gaxB)) [] _ _ _ _ (fun x => by kernel_rfl) fun x => by kernel_rfl
def gayC:Ctx:=⟨tP,109,0,[(1,[7,8,9,10,11,12,13,14,15]),(4,[17,18,19,20]),(6,[24,25,26,27,28,29]),(7,[30,31,32,33,34]),(5,[22,23]),(10,[36,37,38,39]),(12,[43,44,45,46,47]),(13,[48,49,50,51,52,53,54,55,56,57,58,59,60,61,62,63,64,65,66,67,68,69,70,71,72,73,74,75,76,77]),(15,[79,80,81,82,83,84,85,86,87,88,89,90,91,92,93,94,95,96,97,98,99,100,101,102,103,104,105,106,107]),(11,[41,42])],[],[]⟩
def gayB:=bd f82
def gaya:Shps:=(shps [(.agg (shps [(.sl Z18),(.sl (.cons I (.cons I (.cons I (.cons I (.cons .bool (.cons .bool (.cons I (.cons I Z22)))))))))]))])
def gayo:Shps:=(shps [])
theorem gayL:Ok [gaxE]:=kc gaxK k0
def gayk1:Cs:=(58,loopOf (shps [(.box (shps [(.sl Z18),(.sl (.cons I (.cons I (.cons I (.cons I (.cons .bool (.cons .bool (.cons I (.cons I Z22)))))))))])),J]) [1,3] [.ret (shps [J]) [2],.exit 0 (shps [(.box (shps [(.sl Z18),(.sl (.cons I (.cons I (.cons I (.cons I (.cons .bool (.cons .bool (.cons I (.cons I Z22)))))))))]))]) [1]] gay_58F) :: []
theorem gayc1:CutsOk tP gayC gayB gayk1 :=
 CutsOk.loop tM rfl gayL .nil _ _ _ _ _ (by kernel_rfl) (by kernel_rfl) fun x => by kernel_rfl
def gayk2:Cs:=(122,loopOf (shps [(.box (shps [(.sl Z18),(.sl (.cons I (.cons I (.cons I (.cons I (.cons .bool (.cons .bool (.cons I (.cons I Z22)))))))))])),J]) [1,5] [.ret (shps [J]) [2],.exit 2 (shps []) []] gay_122F) :: gayk1
theorem gayc2:CutsOk tP gayC gayB gayk2 :=
 CutsOk.loop tM rfl gayL gayc1 _ _ _ _ _ (by kernel_rfl) (by kernel_rfl) fun x => by kernel_rfl
def gayE:Entry:=⟨82,gaya,J,gayo,fun x => gay x.1.1 x.1.2.1⟩
theorem gayK:EntryOk tP gayE :=
 entry_ok tM rfl gayL func82 (by kernel_rfl) (by kernel_rfl) gayc2 [] _ _ _ _ (fun x => by kernel_rfl) fun x => by kernel_rfl
def gazC:Ctx:=⟨tP,74,0,[(1,[5,6]),(3,[8,9,10,11,12,13,14,15,16]),(6,[18,19,20,21]),(8,[25,26,27,28,29]),(9,[30,31,32,33,34,35,36,37,38,39,40,41,42,43,44,45,46]),(11,[48,49,50,51,52,53,54,55,56,57,58,59,60,61,62,63,64,65,66,67,68,69,70,71,72]),(7,[23,24])],[],[]⟩
def gazB:=bd f83
def gaza:Shps:=(shps [(.agg Z27)])
def gazo:Shps:=(shps [])
def gazk1:Cs:=(122,loopOf (shps [(.box Z27),J]) [1,3] [.ret (shps [J]) [2],.exit 0 (shps []) []] gaz_122F) :: []
theorem gazc1:CutsOk tP gazC gazB gazk1 :=
 CutsOk.loop tM rfl k0 .nil _ _ _ _ _ (by kernel_rfl) (by kernel_rfl) fun x => by kernel_rfl
def gazE:Entry:=⟨83,gaza,J,gazo,fun x => gaz x.1.1 x.1.2.1 x.1.2.2.1 x.1.2.2.2.1⟩
theorem gazK:EntryOk tP gazE :=
 entry_ok tM rfl k0 func83 (by kernel_rfl) (by kernel_rfl) gazc1 [] _ _ _ _ (fun x => by kernel_rfl) fun x => by kernel_rfl
def gbaC:Ctx:=⟨tP,104,0,[(1,[7,8]),(4,[10,11,12]),(6,[16,17,18,19]),(7,[20,21]),(9,[23,24,25,26,27,28,29,30,31]),(12,[33,34,35,36]),(14,[40,41,42,43,44,45,46,47,48,49,50,51,52]),(13,[38,39]),(17,[54,55,56,57]),(19,[61,62,63,64,65,66,67,68,69,70,71]),(18,[59,60]),(21,[73,74,75,76,77,78,79,80,81,82,83,84,85,86,87,88,89,90,91,92,93,94,95,96,97,98,99,100,101,102]),(5,[14,15])],[],[]⟩
def gbaB:=bd f84
def gbaa:Shps:=(shps [(.sl (.cons I Z9))])
def gbao:Shps:=(shps [])
def gbak1:Cs:=(59706,loopOf (shps [(.sl (.cons I Z9)),J,(.box Z13),J]) [0,3,4,5] [.ret (shps [J]) [2],.exit 2 (shps [(.sl (.cons I Z9)),J,(.box Z13)]) [0,3,4]] gba_59706F) :: []
theorem gbac1:CutsOk tP gbaC gbaB gbak1 :=
 CutsOk.loop tM rfl k0 .nil _ _ _ _ _ (by kernel_rfl) (by kernel_rfl) fun x => by kernel_rfl
def gbak2:Cs:=(119418,loopOf (shps [(.sl (.cons I Z9)),J,(.box Z13),J]) [0,3,4,6] [.ret (shps [J]) [2],.exit 4 (shps [(.sl (.cons I Z9)),J,(.box Z13)]) [0,3,4]] gba_119418F) :: gbak1
theorem gbac2:CutsOk tP gbaC gbaB gbak2 :=
 CutsOk.loop tM rfl k0 gbac1 _ _ _ _ _ (by kernel_rfl) (by kernel_rfl) fun x => by kernel_rfl
def gbak3:Cs:=(58,loopOf (shps [(.sl (.cons I Z9)),J]) [0,3] [.ret (shps [J]) [2],.exit 0 (shps []) []] gba_58F) :: gbak2
theorem gbac3:CutsOk tP gbaC gbaB gbak3 :=
 CutsOk.loop tM rfl k0 gbac2 _ _ _ _ _ (by kernel_rfl) (by kernel_rfl) fun x => by kernel_rfl
def gbaE:Entry:=⟨84,gbaa,J,gbao,fun x => gba x.1⟩
theorem gbaK:EntryOk tP gbaE :=
 entry_ok tM rfl k0 func84 (by kernel_rfl) (by kernel_rfl) gbac3 [] _ _ _ _ (fun x => by kernel_rfl) fun x => by kernel_rfl
def gbbC:Ctx:=⟨tP,69,0,[(1,[8,9,10]),(2,[11]),(3,[13]),(4,[14,15,16]),(7,[18,19,20,21]),(9,[25,26,27,28,29,30]),(10,[31]),(11,[33]),(12,[34,35,36,37,38,39,40,41,42,43]),(8,[23,24]),(14,[45,46,47]),(15,[48]),(16,[50]),(18,[51,52,53,54]),(20,[58,59,60,61,62,63,64,65,66,67]),(19,[56,57])],[],[]⟩
def gbbB:=bd f48
def gbba:Shps:=(shps [(.agg (shps [(.sl Z18),(.sl (.cons I (.cons I (.cons I (.cons I (.cons .bool (.cons .bool (.cons I (.cons I Z22))))))))),(.sl (.cons I Z32)),(.sl (.cons I Z9))]))])
def gbbo:Shps:=(shps [])
theorem gbbL:Ok [gayE,gazE,gbaE]:=kc gayK (kc gazK (kc gbaK k0))
def gbbk1:Cs:=(122,loopOf (shps [(.box (shps [(.sl Z18),(.sl (.cons I (.cons I (.cons I (.cons I (.cons .bool (.cons .bool (.cons I (.cons I Z22))))))))),(.sl (.cons I Z32)),(.sl (.cons I Z9))])),J]) [1,4] [.ret (shps [J]) [2],.exit 0 (shps [(.box (shps [(.sl Z18),(.sl (.cons I (.cons I (.cons I (.cons I (.cons .bool (.cons .bool (.cons I (.cons I Z22))))))))),(.sl (.cons I Z32)),(.sl (.cons I Z9))]))]) [1]] gbb_122F) :: []
theorem gbbc1:CutsOk tP gbbC gbbB gbbk1 :=
 CutsOk.loop tM rfl gbbL .nil _ _ _ _ _ (by kernel_rfl) (by kernel_rfl) fun x => by kernel_rfl
def gbbk2:Cs:=(506,loopOf (shps [(.box (shps [(.sl Z18),(.sl (.cons I (.cons I (.cons I (.cons I (.cons .bool (.cons .bool (.cons I (.cons I Z22))))))))),(.sl (.cons I Z32)),(.sl (.cons I Z9))])),J]) [1,7] [.ret (shps [J]) [2],.exit 2 (shps []) []] gbb_506F) :: gbbk1
theorem gbbc2:CutsOk tP gbbC gbbB gbbk2 :=
 CutsOk.loop tM rfl gbbL gbbc1 _ _ _ _ _ (by kernel_rfl) (by kernel_rfl) fun x => by kernel_rfl
def gbbE:Entry:=⟨48,gbba,J,gbbo,fun x => gbb x.1.1 x.1.2.1 x.1.2.2.1 x.1.2.2.2.1⟩
theorem gbbK:EntryOk tP gbbE :=
 entry_ok tM rfl gbbL func48 (by kernel_rfl) (by kernel_rfl) gbbc2 [] _ _ _ _ (fun x => by kernel_rfl) fun x => by kernel_rfl
def gbcC:Ctx:=⟨tP,77,0,[(1,[7,8,9,10,11,12,13,14,15,16,17,18,19,20,21,22,23,24,25,26]),(4,[28,29,30,31]),(6,[35,36,37,38,39,40,41,42,43,44,45,46,47]),(5,[33,34]),(9,[49,50,51,52]),(11,[56,57,58,59,60,61,62,63,64,65,66,67,68,69,70,71,72,73,74,75]),(10,[54,55])],[],[]⟩
def gbcB:=bd f67
def gbca:Shps:=(shps [(.agg (shps [(.sl Z18),(.sl (.cons I (.cons I (.cons I (.cons I (.cons .bool (.cons .bool (.cons I (.cons I Z22))))))))),(.sl (.cons I Z32)),(.sl (.cons I Z9))])),(.agg Z5)])
def gbco:Shps:=(shps [])
theorem gbcL:Ok [gbbE]:=kc gbbK k0
def gbck1:Cs:=(58,loopOf (shps [(.box (shps [(.sl Z18),(.sl (.cons I (.cons I (.cons I (.cons I (.cons .bool (.cons .bool (.cons I (.cons I Z22))))))))),(.sl (.cons I Z32)),(.sl (.cons I Z9))])),(.box Z5),J]) [2,3,5] [.ret Z26 [4],.exit 0 (shps [(.box (shps [(.sl Z18),(.sl (.cons I (.cons I (.cons I (.cons I (.cons .bool (.cons .bool (.cons I (.cons I Z22))))))))),(.sl (.cons I Z32)),(.sl (.cons I Z9))])),(.box Z5)]) [2,3]] gbc_58F) :: []
theorem gbcc1:CutsOk tP gbcC gbcB gbck1 :=
 CutsOk.loop tM rfl gbcL .nil _ _ _ _ _ (by kernel_rfl) (by kernel_rfl) fun x => by kernel_rfl
def gbck2:Cs:=(122,loopOf (shps [(.box (shps [(.sl Z18),(.sl (.cons I (.cons I (.cons I (.cons I (.cons .bool (.cons .bool (.cons I (.cons I Z22))))))))),(.sl (.cons I Z32)),(.sl (.cons I Z9))])),(.box Z5),J]) [2,3,6] [.ret Z26 [4],.exit 2 (shps []) []] gbc_122F) :: gbck1
theorem gbcc2:CutsOk tP gbcC gbcB gbck2 :=
 CutsOk.loop tM rfl gbcL gbcc1 _ _ _ _ _ (by kernel_rfl) (by kernel_rfl) fun x => by kernel_rfl
def gbcE:Entry:=⟨67,gbca,.bool,gbco,fun x => gbc x.1.1 x.1.2.1 x.1.2.2.1 x.1.2.2.2.1 x.2.1.1 x.2.1.2.1⟩
theorem gbcK:EntryOk tP gbcE :=
 entry_ok tM rfl gbcL func67 (by kernel_rfl) (by kernel_rfl) gbcc2 [] _ _ _ _ (fun x => by kernel_rfl) fun x => by kernel_rfl
def gbdC:Ctx:=⟨tP,32,0,[(1,[7,8,9,10,11,12,13,14,15,16,17,18,19,20,21,22,23,24,25,26,27,28,29,30,31])],[],[]⟩
def gbdB:=bd f100
def gbda:Shps:=(shps [(.agg (shps [(.sl Z18),(.sl (.cons I (.cons I (.cons I (.cons I (.cons .bool (.cons .bool (.cons I (.cons I Z22))))))))),(.sl (.cons I Z32)),(.sl (.cons I Z9))])),(.agg Z5),J])
def gbdo:Shps:=(shps [])
theorem gbdL:Ok [gbcE]:=kc gbcK k0
def gbdE:Entry:=⟨100,gbda,.bool,gbdo,fun x => gbd x.1.1 x.1.2.1 x.1.2.2.1 x.1.2.2.2.1 x.2.1.1 x.2.1.2.1 x.2.2.1⟩
theorem gbdK:EntryOk tP gbdE :=
 entry_ok tM rfl gbdL func100 (by kernel_rfl) (by kernel_rfl) (CutsOk.nil (C:=gbdC) (root:=gbdB)) [] _ _ _ _ (fun x => by kernel_rfl) fun x => by kernel_rfl
def gbeC:Ctx:=⟨tP,138,0,[(1,[16,17,18,19,20,21]),(2,[22,23]),(4,[24,25,26,27]),(6,[31,32,33,34,35,36,37]),(7,[39,40,41,42,43,44,45,46,47,48,49]),(8,[50,51,52,53,54,55,56,57,58,59,60,61]),(5,[29,30]),(9,[62,63,64,65,66,67,68,69,70,71,72,73,74]),(10,[75]),(11,[77,78,79,80,81,82,83]),(12,[84,85,86,87,88,89,90,91,92,93,94,95,96,97]),(14,[98,99,100,101]),(16,[105,106,107,108,109,110,111]),(17,[113,114,115,116,117,118,119,120,121,122,123,124]),(18,[125,126,127,128,129,130,131,132,133,134,135,136]),(15,[103,104]),(19,[137])],[],[]⟩
def gbeB:=bd f101
def gbea:Shps:=(shps [(.agg (shps [(.sl Z18),(.sl (.cons I (.cons I (.cons I (.cons I (.cons .bool (.cons .bool (.cons I (.cons I Z22))))))))),(.sl (.cons I Z32)),(.sl (.cons I Z9))])),(.agg Z5),J,J])
def gbeo:Shps:=(shps [])
theorem gbeL:Ok [gaiE,ganE]:=kc gaiK (kc ganK k0)
def gbek1:Cs:=(122,loopOf (shps [J,J,(.box (shps [(.sl Z18),(.sl (.cons I (.cons I (.cons I (.cons I (.cons .bool (.cons .bool (.cons I (.cons I Z22))))))))),(.sl (.cons I Z32)),(.sl (.cons I Z9))])),(.box Z5),(.box (shps [J,J])),(.box Z1),(.box (shps [J,J])),J]) [2,3,4,5,8,9,10,11] [.exit 0 (shps [J,J,(.box (shps [(.sl Z18),(.sl (.cons I (.cons I (.cons I (.cons I (.cons .bool (.cons .bool (.cons I (.cons I Z22))))))))),(.sl (.cons I Z32)),(.sl (.cons I Z9))])),(.box Z5),(.box (shps [J,J])),(.box Z1),(.box (shps [J,J]))]) [2,3,4,5,8,9,10]] gbe_122F) :: []
theorem gbec1:CutsOk tP gbeC gbeB gbek1 :=
 CutsOk.loop tM rfl gbeL .nil _ _ _ _ _ (by kernel_rfl) (by kernel_rfl) fun x => by kernel_rfl
def gbek2:Cs:=(2042,loopOf (shps [J,J,(.box (shps [(.sl Z18),(.sl (.cons I (.cons I (.cons I (.cons I (.cons .bool (.cons .bool (.cons I (.cons I Z22))))))))),(.sl (.cons I Z32)),(.sl (.cons I Z9))])),(.box Z5),(.box (shps [J,J])),(.box (shps [J,J])),J]) [2,3,4,5,8,13,14] [.exit 2 (shps [(.box (shps [J,J])),(.box (shps [J,J]))]) [8,13]] gbe_2042F) :: gbek1
theorem gbec2:CutsOk tP gbeC gbeB gbek2 :=
 CutsOk.loop tM rfl gbeL gbec1 _ _ _ _ _ (by kernel_rfl) (by kernel_rfl) fun x => by kernel_rfl
def gbek3:Cs:=(127,cutOf (shps [J,J,(.box (shps [(.sl Z18),(.sl (.cons I (.cons I (.cons I (.cons I (.cons .bool (.cons .bool (.cons I (.cons I Z22))))))))),(.sl (.cons I Z32)),(.sl (.cons I Z9))])),(.box Z5),(.box (shps [J,J])),(.box Z1),(.box (shps [J,J]))]) [2,3,4,5,8,9,13] [.ret (shps [(.box (shps [J,J]))]) [8]] fun x => gbe_127 x.1 x.2.1 x.2.2.1.1 x.2.2.1.2.1 x.2.2.1.2.2.1 x.2.2.1.2.2.2.1 x.2.2.2.1.1 x.2.2.2.1.2.1 x.2.2.2.2.1.1 x.2.2.2.2.1.2.1 x.2.2.2.2.2.1.1 x.2.2.2.2.2.1.2.1 x.2.2.2.2.2.1.2.2.1 x.2.2.2.2.2.1.2.2.2.1 x.2.2.2.2.2.1.2.2.2.2.1 x.2.2.2.2.2.1.2.2.2.2.2.1 x.2.2.2.2.2.1.2.2.2.2.2.2.1 x.2.2.2.2.2.1.2.2.2.2.2.2.2.1 x.2.2.2.2.2.1.2.2.2.2.2.2.2.2.1 x.2.2.2.2.2.1.2.2.2.2.2.2.2.2.2.1 x.2.2.2.2.2.2.1.1 x.2.2.2.2.2.2.1.2.1) :: gbek2
theorem gbec3:CutsOk tP gbeC gbeB gbek3 :=
 CutsOk.cut tM rfl gbeL gbec2 _ _ _ _ _ (by kernel_rfl) fun x => by kernel_rfl
def gbeE:Entry:=⟨101,gbea,(.agg (shps [J,J])),gbeo,fun x => gbe x.1.1 x.1.2.1 x.1.2.2.1 x.1.2.2.2.1 x.2.1.1 x.2.1.2.1 x.2.2.1 x.2.2.2.1⟩
theorem gbeK:EntryOk tP gbeE :=
 entry_ok tM rfl gbeL func101 (by kernel_rfl) (by kernel_rfl) gbec3 [] _ _ _ _ (fun x => by kernel_rfl) fun x => by kernel_rfl
def gbfC:Ctx:=⟨tP,28,0,[(1,[9,10,11,12,13,14,15,16,17,18,19,20]),(2,[22]),(3,[23,24,25,26,27])],[],[]⟩
def gbfB:=bd f68
def gbfa:Shps:=(shps [(.agg (shps [(.sl Z18),(.sl (.cons I (.cons I (.cons I (.cons I (.cons .bool (.cons .bool (.cons I (.cons I Z22))))))))),(.sl (.cons I Z32)),(.sl (.cons I Z9))])),(.agg Z5),J,J])
def gbfo:Shps:=(shps [])
theorem gbfL:Ok [gbdE,gbeE]:=kc gbdK (kc gbeK k0)
def gbfE:Entry:=⟨68,gbfa,(.agg (shps [J,J])),gbfo,fun x => gbf x.1.1 x.1.2.1 x.1.2.2.1 x.1.2.2.2.1 x.2.1.1 x.2.1.2.1 x.2.2.1 x.2.2.2.1⟩
theorem gbfK:EntryOk tP gbfE :=
 entry_ok tM rfl gbfL func68 (by kernel_rfl) (by kernel_rfl) (CutsOk.nil (C:=gbfC) (root:=gbfB)) [] _ _ _ _ (fun x => by kernel_rfl) fun x => by kernel_rfl
def gbgC:Ctx:=⟨tP,211,0,[(1,[16,17]),(2,[18]),(3,[20]),(4,[21,22,23]),(6,[25,26,27,28,29,30,31,32,33,34,35,36,37,38,39,40,41]),(9,[43,44,45,46]),(11,[50,51,52,53,54,55,56,57,58,59,60,61,62]),(10,[48,49]),(14,[64,65,66,67]),(16,[71,72,73,74,75,76,77,78,79,80,81,82,83]),(15,[69,70]),(18,[85,86,87,88]),(20,[89,90,91,92]),(22,[96,97,98,99,100,101]),(23,[102,103,104,105,106,107,108,109,110]),(25,[112,113,114,115,116,117,118,119,120,121,122,123,124]),(26,[125,126,127,128,129,130,131,132,133]),(27,[134,135,136,137,138,139,140,141,142,143,144,145,146,147]),(29,[149,150,151,152,153,154,155,156,157,158,159,160]),(30,[161,162,163,164,165,166,167,168,169,170,171,172]),(21,[94,95]),(32,[173,174,175]),(34,[179,180,181,182,183,184,185,186,187,188,189,190,191,192,193,194,195,196,197,198,199,200,201,202,203,204,205,206,207,208,209]),(33,[177,178])],[],[]⟩
def gbgB:=bd f35
def gbga:Shps:=(shps [(.agg (shps [(.sl Z18),(.sl (.cons I (.cons I (.cons I (.cons I (.cons .bool (.cons .bool (.cons I (.cons I Z22))))))))),(.sl (.cons I Z32)),(.sl (.cons I Z9))])),(.agg Z5),(.agg Z5)])
def gbgo:Shps:=(shps [])
theorem gbgL:Ok [gbbE,gbcE,gbfE]:=kc gbbK (kc gbcK (kc gbfK k0))
def gbgk1:Cs:=(250,loopOf (shps [(.box (shps [(.sl Z18),(.sl (.cons I (.cons I (.cons I (.cons I (.cons .bool (.cons .bool (.cons I (.cons I Z22))))))))),(.sl (.cons I Z32)),(.sl (.cons I Z9))])),(.box Z5),(.box Z5),J]) [3,4,5,8] [.ret (shps [J]) [6],.exit 0 (shps [(.box (shps [(.sl Z18),(.sl (.cons I (.cons I (.cons I (.cons I (.cons .bool (.cons .bool (.cons I (.cons I Z22))))))))),(.sl (.cons I Z32)),(.sl (.cons I Z9))])),(.box Z5),(.box Z5)]) [3,4,5]] gbg_250F) :: []
theorem gbgc1:CutsOk tP gbgC gbgB gbgk1 :=
 CutsOk.loop tM rfl gbgL .nil _ _ _ _ _ (by kernel_rfl) (by kernel_rfl) fun x => by kernel_rfl
def gbgk2:Cs:=(506,loopOf (shps [(.box (shps [(.sl Z18),(.sl (.cons I (.cons I (.cons I (.cons I (.cons .bool (.cons .bool (.cons I (.cons I Z22))))))))),(.sl (.cons I Z32)),(.sl (.cons I Z9))])),(.box Z5),(.box Z5),J]) [3,4,5,9] [.ret (shps [J]) [6],.exit 2 (shps [(.box (shps [(.sl Z18),(.sl (.cons I (.cons I (.cons I (.cons I (.cons .bool (.cons .bool (.cons I (.cons I Z22))))))))),(.sl (.cons I Z32)),(.sl (.cons I Z9))])),(.box Z5),(.box Z5)]) [3,4,5]] gbg_506F) :: gbgk1
theorem gbgc2:CutsOk tP gbgC gbgB gbgk2 :=
 CutsOk.loop tM rfl gbgL gbgc1 _ _ _ _ _ (by kernel_rfl) (by kernel_rfl) fun x => by kernel_rfl
def gbgk3:Cs:=(2042,loopOf (shps [(.box (shps [(.sl Z18),(.sl (.cons I (.cons I (.cons I (.cons I (.cons .bool (.cons .bool (.cons I (.cons I Z22))))))))),(.sl (.cons I Z32)),(.sl (.cons I Z9))])),(.box Z5),(.box Z5),(.ow (.one I)),J]) [3,4,5,10,11] [.ret (shps [J]) [6],.exit 4 (shps [(.box (shps [(.sl Z18),(.sl (.cons I (.cons I (.cons I (.cons I (.cons .bool (.cons .bool (.cons I (.cons I Z22))))))))),(.sl (.cons I Z32)),(.sl (.cons I Z9))])),(.box Z5),(.ow (.one I))]) [3,5,10]] gbg_2042F) :: gbgk2
theorem gbgc3:CutsOk tP gbgC gbgB gbgk3 :=
 CutsOk.loop tM rfl gbgL gbgc2 _ _ _ _ _ (by kernel_rfl) (by kernel_rfl) fun x => by kernel_rfl
def gbgk4:Cs:=(4090,loopOf (shps [(.box (shps [(.sl Z18),(.sl (.cons I (.cons I (.cons I (.cons I (.cons .bool (.cons .bool (.cons I (.cons I Z22))))))))),(.sl (.cons I Z32)),(.sl (.cons I Z9))])),(.box Z5),(.ow (.one I)),J]) [3,5,10,15] [.ret (shps [J]) [6],.exit 6 (shps []) []] gbg_4090F) :: gbgk3
theorem gbgc4:CutsOk tP gbgC gbgB gbgk4 :=
 CutsOk.loop tM rfl gbgL gbgc3 _ _ _ _ _ (by kernel_rfl) (by kernel_rfl) fun x => by kernel_rfl
def gbgE:Entry:=⟨35,gbga,J,gbgo,fun x => gbg x.1.1 x.1.2.1 x.1.2.2.1 x.1.2.2.2.1 x.2.1.1 x.2.1.2.1 x.2.2.1.1 x.2.2.1.2.1⟩
theorem gbgK:EntryOk tP gbgE :=
 entry_ok tM rfl gbgL func35 (by kernel_rfl) (by kernel_rfl) gbgc4 [] _ _ _ _ (fun x => by kernel_rfl) fun x => by kernel_rfl
def gbhC:Ctx:=⟨tP,22,0,[(2,[4,5,6]),(4,[10,11,12,13,14,15,16,17,18,19,20]),(3,[8,9])],[],[]⟩
def gbhB:=bd f117
def gbha:Shps:=(shps [(.sl (.one I))])
def gbho:Shps:=(shps [])
def gbhk1:Cs:=(26,loopOf (shps [(.sl (.one I)),J]) [0,3] [.ret Z26 [2],.exit 0 (shps []) []] gbh_26F) :: []
theorem gbhc1:CutsOk tP gbhC gbhB gbhk1 :=
 CutsOk.loop tM rfl k0 .nil _ _ _ _ _ (by kernel_rfl) (by kernel_rfl) fun x => by kernel_rfl
def gbhE:Entry:=⟨117,gbha,.bool,gbho,fun x => gbh x.1⟩
theorem gbhK:EntryOk tP gbhE :=
 entry_ok tM rfl k0 func117 (by kernel_rfl) (by kernel_rfl) gbhc1 [] _ _ _ _ (fun x => by kernel_rfl) fun x => by kernel_rfl
def gbiC:Ctx:=⟨tP,49,0,[(1,[9,10]),(6,[12,13,14,15]),(8,[19,20,21,22,23]),(9,[24,25,26,27,28,29,30,31,32,33,34,35,36,37,38]),(10,[40,41,42,43,44,45,46,47]),(7,[17,18]),(11,[48])],[],[]⟩
def gbiB:=bd f121
def gbia:Shps:=(shps [(.agg (shps [(.sl Z18),(.sl (.cons I (.cons I (.cons I (.cons I (.cons .bool (.cons .bool (.cons I (.cons I Z22)))))))))])),(.sl (.one .bool))])
def gbio:Shps:=(shps [])
def gbik1:Cs:=(3734,loopOf (shps [(.box (shps [(.sl Z18),(.sl (.cons I (.cons I (.cons I (.cons I (.cons .bool (.cons .bool (.cons I (.cons I Z22)))))))))])),(.ow (.one .bool)),.bool,J]) [2,5,6,7] [.exit 2 (shps [(.box (shps [(.sl Z18),(.sl (.cons I (.cons I (.cons I (.cons I (.cons .bool (.cons .bool (.cons I (.cons I Z22)))))))))])),(.ow (.one .bool)),.bool]) [2,5,6]] gbi_3734F) :: []
theorem gbic1:CutsOk tP gbiC gbiB gbik1 :=
 CutsOk.loop tM rfl k0 .nil _ _ _ _ _ (by kernel_rfl) (by kernel_rfl) fun x => by kernel_rfl
def gbik2:Cs:=(58,loopOf (shps [(.box (shps [(.sl Z18),(.sl (.cons I (.cons I (.cons I (.cons I (.cons .bool (.cons .bool (.cons I (.cons I Z22)))))))))])),(.ow (.one .bool)),.bool]) [2,5,6] [.exit 0 Z14 [5]] gbi_58F) :: gbik1
theorem gbic2:CutsOk tP gbiC gbiB gbik2 :=
 CutsOk.loop tM rfl k0 gbic1 _ _ _ _ _ (by kernel_rfl) (by kernel_rfl) fun x => by kernel_rfl
def gbiE:Entry:=⟨121,gbia,(.ow (.one .bool)),gbio,fun x => gbi x.1.1 x.1.2.1 x.2.1⟩
theorem gbiK:EntryOk tP gbiE :=
 entry_ok tM rfl k0 func121 (by kernel_rfl) (by kernel_rfl) gbic2 [] _ _ _ _ (fun x => by kernel_rfl) fun x => by kernel_rfl
def gbjC:Ctx:=⟨tP,28,0,[(1,[5,6,7,8]),(3,[9,10,11,12]),(5,[16,17,18,19,20,21,22,23,24]),(4,[14,15]),(6,[25,26,27])],[],[]⟩
def gbjB:=bd f105
def gbja:Shps:=(shps [(.agg (shps [(.sl Z18),(.sl (.cons I (.cons I (.cons I (.cons I (.cons .bool (.cons .bool (.cons I (.cons I Z22)))))))))]))])
def gbjo:Shps:=(shps [])
theorem gbjL:Ok [gbiE]:=kc gbiK k0
def gbjk1:Cs:=(58,loopOf (shps [(.box (shps [(.sl Z18),(.sl (.cons I (.cons I (.cons I (.cons I (.cons .bool (.cons .bool (.cons I (.cons I Z22)))))))))])),(.ow (.one .bool)),J]) [1,3,4] [.exit 0 (shps [(.box (shps [(.sl Z18),(.sl (.cons I (.cons I (.cons I (.cons I (.cons .bool (.cons .bool (.cons I (.cons I Z22)))))))))])),(.ow (.one .bool))]) [1,3]] gbj_58F) :: []
theorem gbjc1:CutsOk tP gbjC gbjB gbjk1 :=
 CutsOk.loop tM rfl gbjL .nil _ _ _ _ _ (by kernel_rfl) (by kernel_rfl) fun x => by kernel_rfl
def gbjE:Entry:=⟨105,gbja,(.ow (.one .bool)),gbjo,fun x => gbj x.1.1 x.1.2.1⟩
theorem gbjK:EntryOk tP gbjE :=
 entry_ok tM rfl gbjL func105 (by kernel_rfl) (by kernel_rfl) gbjc1 [] _ _ _ _ (fun x => by kernel_rfl) fun x => by kernel_rfl
def gbkC:Ctx:=⟨tP,30,0,[(1,[5,6]),(3,[7,8,9]),(5,[13,14,15,16,17,18,19,20,21,22,23,24,25,26,27,28]),(4,[11,12]),(6,[29])],[],[]⟩
def gbkB:=bd f118
def gbka:Shps:=(shps [(.agg (shps [(.sl Z18),(.sl (.cons I (.cons I (.cons I (.cons I (.cons .bool (.cons .bool (.cons I (.cons I Z22)))))))))]))])
def gbko:Shps:=(shps [])
theorem gbkL:Ok [gbjE]:=kc gbjK k0
def gbkk1:Cs:=(58,loopOf (shps [(.box (shps [(.sl Z18),(.sl (.cons I (.cons I (.cons I (.cons I (.cons .bool (.cons .bool (.cons I (.cons I Z22)))))))))])),(.ow (.one .bool)),J]) [1,3,4] [.exit 0 Z14 [3]] gbk_58F) :: []
theorem gbkc1:CutsOk tP gbkC gbkB gbkk1 :=
 CutsOk.loop tM rfl gbkL .nil _ _ _ _ _ (by kernel_rfl) (by kernel_rfl) fun x => by kernel_rfl
def gbkE:Entry:=⟨118,gbka,(.ow (.one .bool)),gbko,fun x => gbk x.1.1 x.1.2.1⟩
theorem gbkK:EntryOk tP gbkE :=
 entry_ok tM rfl gbkL func118 (by kernel_rfl) (by kernel_rfl) gbkc1 [] _ _ _ _ (fun x => by kernel_rfl) fun x => by kernel_rfl
def gblC:Ctx:=⟨tP,49,0,[(1,[10,11]),(2,[12]),(3,[14]),(4,[15,16,17]),(6,[19,20,21,22,23,24]),(8,[26,27]),(10,[29,30,31]),(12,[32,33,34]),(14,[38,39,40,41,42,43,44,45,46,47]),(13,[36,37])],[],[]⟩
def gblB:=bd f123
def gbla:Shps:=(shps [(.agg (shps [(.sl Z18),(.sl (.cons I (.cons I (.cons I (.cons I (.cons .bool (.cons .bool (.cons I (.cons I Z22))))))))),(.sl (.cons I Z32)),(.sl (.cons I Z9))])),(.agg Z5),(.sl (.one I))])
def gblo:Shps:=(shps [])
theorem gblL:Ok [gbbE,gbcE,gbhE,gbkE]:=kc gbbK (kc gbcK (kc gbhK (kc gbkK k0)))
def gblk1:Cs:=(1018,loopOf (shps [(.sl (.one I)),(.ow (.one .bool)),J]) [2,8,9] [.ret (shps [J]) [6],.exit 0 (shps []) []] gbl_1018F) :: []
theorem gblc1:CutsOk tP gblC gblB gblk1 :=
 CutsOk.loop tM rfl gblL .nil _ _ _ _ _ (by kernel_rfl) (by kernel_rfl) fun x => by kernel_rfl
def gblE:Entry:=⟨123,gbla,J,gblo,fun x => gbl x.1.1 x.1.2.1 x.1.2.2.1 x.1.2.2.2.1 x.2.1.1 x.2.1.2.1 x.2.2.1⟩
theorem gblK:EntryOk tP gblE :=
 entry_ok tM rfl gblL func123 (by kernel_rfl) (by kernel_rfl) gblc1 [] _ _ _ _ (fun x => by kernel_rfl) fun x => by kernel_rfl
def gbmC:Ctx:=⟨tP,34,0,[(2,[12,13]),(3,[15,16,17,18,19,20,21]),(4,[22,23,24,25,26,27,28]),(5,[30]),(6,[31,32]),(7,[33])],[],[]⟩
def gbmB:=bd f106
def gbma:Shps:=(shps [(.agg (shps [(.sl Z18),(.sl (.cons I (.cons I (.cons I (.cons I (.cons .bool (.cons .bool (.cons I (.cons I Z22))))))))),(.sl (.cons I Z32)),(.sl (.cons I Z9))])),(.agg Z5),J,J])
def gbmo:Shps:=(shps [])
theorem gbmL:Ok [gbeE]:=kc gbeK k0
def gbmk1:Cs:=(28,loopOf (shps [J,J,(.box (shps [(.sl Z18),(.sl (.cons I (.cons I (.cons I (.cons I (.cons .bool (.cons .bool (.cons I (.cons I Z22))))))))),(.sl (.cons I Z32)),(.sl (.cons I Z9))])),(.box Z5),J,J]) [2,3,4,5,9,10] [.exit 0 (shps [J]) [9]] gbm_28F) :: []
theorem gbmc1:CutsOk tP gbmC gbmB gbmk1 :=
 CutsOk.loop tM rfl gbmL .nil _ _ _ _ _ (by kernel_rfl) (by kernel_rfl) fun x => by kernel_rfl
def gbmE:Entry:=⟨106,gbma,J,gbmo,fun x => gbm x.1.1 x.1.2.1 x.1.2.2.1 x.1.2.2.2.1 x.2.1.1 x.2.1.2.1 x.2.2.1 x.2.2.2.1⟩
theorem gbmK:EntryOk tP gbmE :=
 entry_ok tM rfl gbmL func106 (by kernel_rfl) (by kernel_rfl) gbmc1 [] _ _ _ _ (fun x => by kernel_rfl) fun x => by kernel_rfl
def gbnC:Ctx:=⟨tP,33,0,[(2,[12,13]),(3,[15,16,17,18,19,20]),(4,[21,22,23,24,25,26,27]),(5,[29]),(6,[30,31]),(7,[32])],[],[]⟩
def gbnB:=bd f107
def gbna:Shps:=(shps [(.agg (shps [(.sl Z18),(.sl (.cons I (.cons I (.cons I (.cons I (.cons .bool (.cons .bool (.cons I (.cons I Z22))))))))),(.sl (.cons I Z32)),(.sl (.cons I Z9))])),(.agg Z5),J,J])
def gbno:Shps:=(shps [])
theorem gbnL:Ok [gbeE]:=kc gbeK k0
def gbnk1:Cs:=(28,loopOf (shps [J,J,(.box (shps [(.sl Z18),(.sl (.cons I (.cons I (.cons I (.cons I (.cons .bool (.cons .bool (.cons I (.cons I Z22))))))))),(.sl (.cons I Z32)),(.sl (.cons I Z9))])),(.box Z5),J,J]) [2,3,4,5,9,10] [.exit 0 (shps [J]) [9]] gbn_28F) :: []
theorem gbnc1:CutsOk tP gbnC gbnB gbnk1 :=
 CutsOk.loop tM rfl gbnL .nil _ _ _ _ _ (by kernel_rfl) (by kernel_rfl) fun x => by kernel_rfl
def gbnE:Entry:=⟨107,gbna,J,gbno,fun x => gbn x.1.1 x.1.2.1 x.1.2.2.1 x.1.2.2.2.1 x.2.1.1 x.2.1.2.1 x.2.2.1 x.2.2.2.1⟩
theorem gbnK:EntryOk tP gbnE :=
 entry_ok tM rfl gbnL func107 (by kernel_rfl) (by kernel_rfl) gbnc1 [] _ _ _ _ (fun x => by kernel_rfl) fun x => by kernel_rfl
def gboC:Ctx:=⟨tP,71,0,[(3,[12,13,14,15,16]),(5,[20,21,22,23,24,25]),(6,[26]),(7,[28,29,30]),(8,[32,33,34,35,36,37,38,39,40,41,42,43,44,45,46,47,48]),(9,[49,50,51]),(10,[53,54,55,56,57,58,59,60,61,62,63,64,65,66,67,68,69]),(4,[18,19]),(11,[70])],[],[]⟩
def gboB:=bd f119
def gboa:Shps:=(shps [(.agg (shps [(.sl Z18),(.sl (.cons I (.cons I (.cons I (.cons I (.cons .bool (.cons .bool (.cons I (.cons I Z22))))))))),(.sl (.cons I Z32)),(.sl (.cons I Z9))])),(.agg Z5),(.sl (.one I)),J])
def gboo:Shps:=(shps [])
theorem gboL:Ok [gbmE,gbnE]:=kc gbmK (kc gbnK k0)
def gbok1:Cs:=(7463,cutOf (shps [(.sl (.one I)),J,(.box (shps [(.sl Z18),(.sl (.cons I (.cons I (.cons I (.cons I (.cons .bool (.cons .bool (.cons I (.cons I Z22))))))))),(.sl (.cons I Z32)),(.sl (.cons I Z9))])),(.box Z5),J,J,(.box Z1)]) [2,3,4,5,9,10,11] [.norm (shps [(.sl (.one I)),J,(.box (shps [(.sl Z18),(.sl (.cons I (.cons I (.cons I (.cons I (.cons .bool (.cons .bool (.cons I (.cons I Z22))))))))),(.sl (.cons I Z32)),(.sl (.cons I Z9))])),(.box Z5),J,J]) [2,3,4,5,9,10]] fun x => gbo_7463 x.1 x.2.1 x.2.2.1.1 x.2.2.1.2.1 x.2.2.1.2.2.1 x.2.2.1.2.2.2.1 x.2.2.2.1.1 x.2.2.2.1.2.1 x.2.2.2.2.1 x.2.2.2.2.2.1 x.2.2.2.2.2.2.1.1 x.2.2.2.2.2.2.1.2.1 x.2.2.2.2.2.2.1.2.2.1 x.2.2.2.2.2.2.1.2.2.2.1 x.2.2.2.2.2.2.1.2.2.2.2.1 x.2.2.2.2.2.2.1.2.2.2.2.2.1 x.2.2.2.2.2.2.1.2.2.2.2.2.2.1 x.2.2.2.2.2.2.1.2.2.2.2.2.2.2.1 x.2.2.2.2.2.2.1.2.2.2.2.2.2.2.2.1 x.2.2.2.2.2.2.1.2.2.2.2.2.2.2.2.2.1) :: []
theorem gboc1:CutsOk tP gboC gboB gbok1 :=
 CutsOk.cut tM rfl gboL .nil _ _ _ _ _ (by kernel_rfl) fun x => by kernel_rfl
def gbok2:Cs:=(58,loopOf (shps [(.sl (.one I)),J,(.box (shps [(.sl Z18),(.sl (.cons I (.cons I (.cons I (.cons I (.cons .bool (.cons .bool (.cons I (.cons I Z22))))))))),(.sl (.cons I Z32)),(.sl (.cons I Z9))])),(.box Z5),J,J]) [2,3,4,5,9,10] [.exit 0 (shps [J]) [9]] gbo_58F) :: gbok1
theorem gboc2:CutsOk tP gboC gboB gbok2 :=
 CutsOk.loop tM rfl gboL gboc1 _ _ _ _ _ (by kernel_rfl) (by kernel_rfl) fun x => by kernel_rfl
def gboE:Entry:=⟨119,gboa,J,gboo,fun x => gbo x.1.1 x.1.2.1 x.1.2.2.1 x.1.2.2.2.1 x.2.1.1 x.2.1.2.1 x.2.2.1 x.2.2.2.1⟩
theorem gboK:EntryOk tP gboE :=
 entry_ok tM rfl gboL func119 (by kernel_rfl) (by kernel_rfl) gboc2 [] _ _ _ _ (fun x => by kernel_rfl) fun x => by kernel_rfl
def gbpC:Ctx:=⟨tP,86,0,[(1,[14,15]),(2,[16,17,18,19,20]),(3,[22,23,24,25]),(4,[26,27,28,29]),(5,[30,31,32,33,34,35,36]),(6,[37,38,39,40,41]),(7,[43,44,45,46]),(9,[48,49,50,51]),(10,[52,53]),(11,[54,55,56,57]),(12,[58,59,60]),(13,[62,63,64,65,66,67,68,69,70]),(14,[71,72,73,74,75]),(15,[77,78,79,80]),(16,[81,82,83,84]),(17,[85])],[],[]⟩
def gbpB:=bd f124
def gbpa:Shps:=(shps [(.agg (shps [(.sl Z18),(.sl (.cons I (.cons I (.cons I (.cons I (.cons .bool (.cons .bool (.cons I (.cons I Z22))))))))),(.sl (.cons I Z32)),(.sl (.cons I Z9))])),(.agg Z5),(.sl (.one I)),J])
def gbpo:Shps:=(shps [])
theorem gbpL:Ok [gboE]:=kc gboK k0
def gbpk1:Cs:=(124,loopOf (shps [J,(.box (shps [(.sl Z18),(.sl (.cons I (.cons I (.cons I (.cons I (.cons .bool (.cons .bool (.cons I (.cons I Z22))))))))),(.sl (.cons I Z32)),(.sl (.cons I Z9))])),(.box Z5),(.ow (.one I)),J,J]) [3,4,5,10,11,12] [.exit 0 (shps [J,(.box (shps [(.sl Z18),(.sl (.cons I (.cons I (.cons I (.cons I (.cons .bool (.cons .bool (.cons I (.cons I Z22))))))))),(.sl (.cons I Z32)),(.sl (.cons I Z9))])),(.box Z5),(.ow (.one I)),J]) [3,4,5,10,11],.ret Z24 [8,9]] gbp_124F) :: []
theorem gbpc1:CutsOk tP gbpC gbpB gbpk1 :=
 CutsOk.loop tM rfl gbpL .nil _ _ _ _ _ (by kernel_rfl) (by kernel_rfl) fun x => by kernel_rfl
def gbpk2:Cs:=(508,loopOf (shps [J,(.box (shps [(.sl Z18),(.sl (.cons I (.cons I (.cons I (.cons I (.cons .bool (.cons .bool (.cons I (.cons I Z22))))))))),(.sl (.cons I Z32)),(.sl (.cons I Z9))])),(.box Z5),(.ow (.one I)),J,J]) [3,4,5,10,11,13] [.exit 2 (shps [J]) [13]] gbp_508F) :: gbpk1
theorem gbpc2:CutsOk tP gbpC gbpB gbpk2 :=
 CutsOk.loop tM rfl gbpL gbpc1 _ _ _ _ _ (by kernel_rfl) (by kernel_rfl) fun x => by kernel_rfl
def gbpE:Entry:=⟨124,gbpa,(.tup Z24),gbpo,fun x => gbp x.1.1 x.1.2.1 x.1.2.2.1 x.1.2.2.2.1 x.2.1.1 x.2.1.2.1 x.2.2.1 x.2.2.2.1⟩
theorem gbpK:EntryOk tP gbpE :=
 entry_ok tM rfl gbpL func124 (by kernel_rfl) (by kernel_rfl) gbpc2 [] _ _ _ _ (fun x => by kernel_rfl) fun x => by kernel_rfl
def gbqC:Ctx:=⟨tP,71,0,[(3,[12,13,14,15,16]),(5,[20,21,22,23,24,25]),(6,[26]),(7,[28,29,30]),(8,[32,33,34,35,36,37,38,39,40,41,42,43,44,45,46,47,48]),(9,[49,50,51]),(10,[53,54,55,56,57,58,59,60,61,62,63,64,65,66,67,68,69]),(4,[18,19]),(11,[70])],[],[]⟩
def gbqB:=bd f120
def gbqa:Shps:=(shps [(.agg (shps [(.sl Z18),(.sl (.cons I (.cons I (.cons I (.cons I (.cons .bool (.cons .bool (.cons I (.cons I Z22))))))))),(.sl (.cons I Z32)),(.sl (.cons I Z9))])),(.agg Z5),(.sl (.one I)),J])
def gbqo:Shps:=(shps [])
theorem gbqL:Ok [gbnE,gbmE]:=kc gbnK (kc gbmK k0)
def gbqk1:Cs:=(7463,cutOf (shps [(.sl (.one I)),J,(.box (shps [(.sl Z18),(.sl (.cons I (.cons I (.cons I (.cons I (.cons .bool (.cons .bool (.cons I (.cons I Z22))))))))),(.sl (.cons I Z32)),(.sl (.cons I Z9))])),(.box Z5),J,J,(.box Z1)]) [2,3,4,5,9,10,11] [.norm (shps [(.sl (.one I)),J,(.box (shps [(.sl Z18),(.sl (.cons I (.cons I (.cons I (.cons I (.cons .bool (.cons .bool (.cons I (.cons I Z22))))))))),(.sl (.cons I Z32)),(.sl (.cons I Z9))])),(.box Z5),J,J]) [2,3,4,5,9,10]] fun x => gbq_7463 x.1 x.2.1 x.2.2.1.1 x.2.2.1.2.1 x.2.2.1.2.2.1 x.2.2.1.2.2.2.1 x.2.2.2.1.1 x.2.2.2.1.2.1 x.2.2.2.2.1 x.2.2.2.2.2.1 x.2.2.2.2.2.2.1.1 x.2.2.2.2.2.2.1.2.1 x.2.2.2.2.2.2.1.2.2.1 x.2.2.2.2.2.2.1.2.2.2.1 x.2.2.2.2.2.2.1.2.2.2.2.1 x.2.2.2.2.2.2.1.2.2.2.2.2.1 x.2.2.2.2.2.2.1.2.2.2.2.2.2.1 x.2.2.2.2.2.2.1.2.2.2.2.2.2.2.1 x.2.2.2.2.2.2.1.2.2.2.2.2.2.2.2.1 x.2.2.2.2.2.2.1.2.2.2.2.2.2.2.2.2.1) :: []
theorem gbqc1:CutsOk tP gbqC gbqB gbqk1 :=
 CutsOk.cut tM rfl gbqL .nil _ _ _ _ _ (by kernel_rfl) fun x => by kernel_rfl
def gbqk2:Cs:=(58,loopOf (shps [(.sl (.one I)),J,(.box (shps [(.sl Z18),(.sl (.cons I (.cons I (.cons I (.cons I (.cons .bool (.cons .bool (.cons I (.cons I Z22))))))))),(.sl (.cons I Z32)),(.sl (.cons I Z9))])),(.box Z5),J,J]) [2,3,4,5,9,10] [.exit 0 (shps [J]) [9]] gbq_58F) :: gbqk1
theorem gbqc2:CutsOk tP gbqC gbqB gbqk2 :=
 CutsOk.loop tM rfl gbqL gbqc1 _ _ _ _ _ (by kernel_rfl) (by kernel_rfl) fun x => by kernel_rfl
def gbqE:Entry:=⟨120,gbqa,J,gbqo,fun x => gbq x.1.1 x.1.2.1 x.1.2.2.1 x.1.2.2.2.1 x.2.1.1 x.2.1.2.1 x.2.2.1 x.2.2.2.1⟩
theorem gbqK:EntryOk tP gbqE :=
 entry_ok tM rfl gbqL func120 (by kernel_rfl) (by kernel_rfl) gbqc2 [] _ _ _ _ (fun x => by kernel_rfl) fun x => by kernel_rfl
def gbrC:Ctx:=⟨tP,86,0,[(1,[14,15]),(2,[16,17,18,19,20]),(3,[22,23,24,25]),(4,[26,27,28,29]),(5,[30,31,32,33,34,35,36]),(6,[37,38,39,40,41]),(7,[43,44,45,46]),(9,[48,49,50,51]),(10,[52,53]),(11,[54,55,56,57]),(12,[58,59,60]),(13,[62,63,64,65,66,67,68,69,70]),(14,[71,72,73,74,75]),(15,[77,78,79,80]),(16,[81,82,83,84]),(17,[85])],[],[]⟩
def gbrB:=bd f125
def gbra:Shps:=(shps [(.agg (shps [(.sl Z18),(.sl (.cons I (.cons I (.cons I (.cons I (.cons .bool (.cons .bool (.cons I (.cons I Z22))))))))),(.sl (.cons I Z32)),(.sl (.cons I Z9))])),(.agg Z5),(.sl (.one I)),J])
def gbro:Shps:=(shps [])
theorem gbrL:Ok [gbqE]:=kc gbqK k0
def gbrk1:Cs:=(124,loopOf (shps [J,(.box (shps [(.sl Z18),(.sl (.cons I (.cons I (.cons I (.cons I (.cons .bool (.cons .bool (.cons I (.cons I Z22))))))))),(.sl (.cons I Z32)),(.sl (.cons I Z9))])),(.box Z5),(.ow (.one I)),J,J]) [3,4,5,10,11,12] [.exit 0 (shps [J,(.box (shps [(.sl Z18),(.sl (.cons I (.cons I (.cons I (.cons I (.cons .bool (.cons .bool (.cons I (.cons I Z22))))))))),(.sl (.cons I Z32)),(.sl (.cons I Z9))])),(.box Z5),(.ow (.one I)),J]) [3,4,5,10,11],.ret Z24 [8,9]] gbr_124F) :: []
theorem gbrc1:CutsOk tP gbrC gbrB gbrk1 :=
 CutsOk.loop tM rfl gbrL .nil _ _ _ _ _ (by kernel_rfl) (by kernel_rfl) fun x => by kernel_rfl
def gbrk2:Cs:=(508,loopOf (shps [J,(.box (shps [(.sl Z18),(.sl (.cons I (.cons I (.cons I (.cons I (.cons .bool (.cons .bool (.cons I (.cons I Z22))))))))),(.sl (.cons I Z32)),(.sl (.cons I Z9))])),(.box Z5),(.ow (.one I)),J,J]) [3,4,5,10,11,13] [.exit 2 (shps [J]) [13]] gbr_508F) :: gbrk1
theorem gbrc2:CutsOk tP gbrC gbrB gbrk2 :=
 CutsOk.loop tM rfl gbrL gbrc1 _ _ _ _ _ (by kernel_rfl) (by kernel_rfl) fun x => by kernel_rfl
def gbrE:Entry:=⟨125,gbra,(.tup Z24),gbro,fun x => gbr x.1.1 x.1.2.1 x.1.2.2.1 x.1.2.2.2.1 x.2.1.1 x.2.1.2.1 x.2.2.1 x.2.2.2.1⟩
theorem gbrK:EntryOk tP gbrE :=
 entry_ok tM rfl gbrL func125 (by kernel_rfl) (by kernel_rfl) gbrc2 [] _ _ _ _ (fun x => by kernel_rfl) fun x => by kernel_rfl
def gbsC:Ctx:=⟨tP,79,0,[(1,[18,19,20,21]),(2,[22]),(3,[24]),(4,[25,26]),(5,[27,28,29]),(7,[30]),(11,[34,35,36]),(13,[40,41,42]),(16,[45,46,47,48,49,50,51,52]),(17,[53,54,55,56,57,58,59,60]),(18,[61]),(20,[63,64,65,66,67,68,69,70,71]),(21,[72,73,74,75]),(12,[38,39]),(22,[76]),(23,[78]),(8,[32,33])],[],[]⟩
def gbsB:=bd f116
def gbsa:Shps:=(shps [(.agg (shps [(.sl Z18),(.sl (.cons I (.cons I (.cons I (.cons I (.cons .bool (.cons .bool (.cons I (.cons I Z22))))))))),(.sl (.cons I Z32)),(.sl (.cons I Z9))])),(.agg Z5),(.sl (.one I)),.bool])
def gbso:Shps:=(shps [])
theorem gbsL:Ok [gblE,gbkE,gbpE,gbrE]:=kc gblK (kc gbkK (kc gbpK (kc gbrK k0)))
def gbsk1:Cs:=(8201511,cutOf (shps [.bool,(.box (shps [(.sl Z18),(.sl (.cons I (.cons I (.cons I (.cons I (.cons .bool (.cons .bool (.cons I (.cons I Z22))))))))),(.sl (.cons I Z32)),(.sl (.cons I Z9))])),(.box Z5),(.ow (.one I)),(.ow (.one .bool)),J,.bool,J,J,.bool]) [3,4,5,11,12,13,14,15,16,17] [.ret Z15 [8,9],.norm (shps [.bool,(.box (shps [(.sl Z18),(.sl (.cons I (.cons I (.cons I (.cons I (.cons .bool (.cons .bool (.cons I (.cons I Z22))))))))),(.sl (.cons I Z32)),(.sl (.cons I Z9))])),(.box Z5),(.ow (.one I)),(.ow (.one .bool)),J,.bool,J]) [3,4,5,11,12,13,14,15]] fun x => gbs_8201511 x.1 x.2.1.1 x.2.1.2.1 x.2.1.2.2.1 x.2.1.2.2.2.1 x.2.2.1.1 x.2.2.1.2.1 x.2.2.2.1 x.2.2.2.2.1 x.2.2.2.2.2.1 x.2.2.2.2.2.2.1 x.2.2.2.2.2.2.2.1 x.2.2.2.2.2.2.2.2.1 x.2.2.2.2.2.2.2.2.2.1) :: []
theorem gbsc1:CutsOk tP gbsC gbsB gbsk1 :=
 CutsOk.cut tM rfl gbsL .nil _ _ _ _ _ (by kernel_rfl) fun x => by kernel_rfl
def gbsk2:Cs:=(64074,loopOf (shps [.bool,(.box (shps [(.sl Z18),(.sl (.cons I (.cons I (.cons I (.cons I (.cons .bool (.cons .bool (.cons I (.cons I Z22))))))))),(.sl (.cons I Z32)),(.sl (.cons I Z9))])),(.box Z5),(.ow (.one I)),(.ow (.one .bool)),J,.bool,J]) [3,4,5,11,12,13,14,15] [.ret Z15 [8,9],.exit 2 (shps [.bool,(.box (shps [(.sl Z18),(.sl (.cons I (.cons I (.cons I (.cons I (.cons .bool (.cons .bool (.cons I (.cons I Z22))))))))),(.sl (.cons I Z32)),(.sl (.cons I Z9))])),(.box Z5),(.ow (.one I)),(.ow (.one .bool)),J,.bool]) [3,4,5,11,12,13,14]] gbs_64074F) :: gbsk1
theorem gbsc2:CutsOk tP gbsC gbsB gbsk2 :=
 CutsOk.loop tM rfl gbsL gbsc1 _ _ _ _ _ (by kernel_rfl) (by kernel_rfl) fun x => by kernel_rfl
def gbsk3:Cs:=(250,loopOf (shps [.bool,(.box (shps [(.sl Z18),(.sl (.cons I (.cons I (.cons I (.cons I (.cons .bool (.cons .bool (.cons I (.cons I Z22))))))))),(.sl (.cons I Z32)),(.sl (.cons I Z9))])),(.box Z5),(.ow (.one I)),(.ow (.one .bool)),J]) [3,4,5,11,12,13] [.ret Z15 [8,9],.ret (shps [(.rsl 11 none),J,(.ow (.one I))]) [8,9,11],.exit 0 (shps []) []] gbs_250F) :: gbsk2
theorem gbsc3:CutsOk tP gbsC gbsB gbsk3 :=
 CutsOk.loop tM rfl gbsL gbsc2 _ _ _ _ _ (by kernel_rfl) (by kernel_rfl) fun x => by kernel_rfl
def gbsE:Entry:=⟨116,gbsa,(.tup Z15),gbso,fun x => gbs x.1.1 x.1.2.1 x.1.2.2.1 x.1.2.2.2.1 x.2.1.1 x.2.1.2.1 x.2.2.1 x.2.2.2.1⟩
theorem gbsK:EntryOk tP gbsE :=
 entry_ok tM rfl gbsL func116 (by kernel_rfl) (by kernel_rfl) gbsc3 [] _ _ _ _ (fun x => by kernel_rfl) fun x => by kernel_rfl
def gbtC:Ctx:=⟨tP,14,0,[(1,[8,9,10,11,12,13])],[],[]⟩
def gbtB:=bd f102
def gbta:Shps:=(shps [(.agg (shps [(.sl Z18),(.sl (.cons I (.cons I (.cons I (.cons I (.cons .bool (.cons .bool (.cons I (.cons I Z22))))))))),(.sl (.cons I Z32)),(.sl (.cons I Z9))])),(.agg Z5),(.sl (.one I))])
def gbto:Shps:=(shps [])
theorem gbtL:Ok [gbsE]:=kc gbsK k0
def gbtE:Entry:=⟨102,gbta,(.tup Z15),gbto,fun x => gbt x.1.1 x.1.2.1 x.1.2.2.1 x.1.2.2.2.1 x.2.1.1 x.2.1.2.1 x.2.2.1⟩
theorem gbtK:EntryOk tP gbtE :=
 entry_ok tM rfl gbtL func102 (by kernel_rfl) (by kernel_rfl) (CutsOk.nil (C:=gbtC) (root:=gbtB)) [] _ _ _ _ (fun x => by kernel_rfl) fun x => by kernel_rfl
def gbuC:Ctx:=⟨tP,14,0,[(1,[8,9,10,11,12,13])],[],[]⟩
def gbuB:=bd f103
def gbua:Shps:=(shps [(.agg (shps [(.sl Z18),(.sl (.cons I (.cons I (.cons I (.cons I (.cons .bool (.cons .bool (.cons I (.cons I Z22))))))))),(.sl (.cons I Z32)),(.sl (.cons I Z9))])),(.agg Z5),(.sl (.one I))])
def gbuo:Shps:=(shps [])
theorem gbuL:Ok [gbsE]:=kc gbsK k0
def gbuE:Entry:=⟨103,gbua,(.tup Z15),gbuo,fun x => gbu x.1.1 x.1.2.1 x.1.2.2.1 x.1.2.2.2.1 x.2.1.1 x.2.1.2.1 x.2.2.1⟩
theorem gbuK:EntryOk tP gbuE :=
 entry_ok tM rfl gbuL func103 (by kernel_rfl) (by kernel_rfl) (CutsOk.nil (C:=gbuC) (root:=gbuB)) [] _ _ _ _ (fun x => by kernel_rfl) fun x => by kernel_rfl
def gbvC:Ctx:=⟨tP,50,0,[(1,[10,11,12,13,14,15,16,17,18,19,20]),(2,[21]),(3,[23,24]),(4,[25,26,27,28,29,30,31]),(5,[32]),(6,[34,35]),(7,[36,37,38,39,40,41,42]),(8,[43]),(9,[45,46]),(10,[47,48,49])],[],[]⟩
def gbvB:=bd f69
def gbva:Shps:=(shps [(.agg (shps [(.sl Z18),(.sl (.cons I (.cons I (.cons I (.cons I (.cons .bool (.cons .bool (.cons I (.cons I Z22))))))))),(.sl (.cons I Z32)),(.sl (.cons I Z9))])),(.agg Z5)])
def gbvo:Shps:=(shps [])
theorem gbvL:Ok [gbtE,gbuE]:=kc gbtK (kc gbuK k0)
def gbvE:Entry:=⟨69,gbva,(.tup (shps [(.agg Z3),J])),gbvo,fun x => gbv x.1.1 x.1.2.1 x.1.2.2.1 x.1.2.2.2.1 x.2.1.1 x.2.1.2.1⟩
theorem gbvK:EntryOk tP gbvE :=
 entry_ok tM rfl gbvL func69 (by kernel_rfl) (by kernel_rfl) (CutsOk.nil (C:=gbvC) (root:=gbvB)) [] _ _ _ _ (fun x => by kernel_rfl) fun x => by kernel_rfl
def gbwC:Ctx:=⟨tP,88,0,[(1,[11,12]),(2,[13]),(3,[15]),(4,[16,17,18]),(6,[20,21,22,23]),(7,[24,25,26,27,28,29,30,31,32,33,34]),(9,[36,37,38,39,40,41,42,43,44]),(11,[46,47,48]),(13,[49,50]),(15,[54,55,56]),(16,[58,59,60,61,62,63,64,65,66,67,68,69,70]),(18,[72,73,74,75,76,77,78,79,80,81,82,83,84,85,86]),(14,[52,53])],[],[]⟩
def gbwB:=bd f104
def gbwa:Shps:=(shps [(.agg (shps [(.sl Z18),(.sl (.cons I (.cons I (.cons I (.cons I (.cons .bool (.cons .bool (.cons I (.cons I Z22))))))))),(.sl (.cons I Z32)),(.sl (.cons I Z9))])),(.agg Z5),(.agg Z5)])
def gbwo:Shps:=(shps [])
theorem gbwL:Ok [gbbE,gbcE,gbhE,gbkE,gboE,gbqE]:=kc gbbK (kc gbcK (kc gbhK (kc gbkK (kc gboK (kc gbqK k0)))))
def gbwk1:Cs:=(2042,loopOf (shps [(.box (shps [(.sl Z18),(.sl (.cons I (.cons I (.cons I (.cons I (.cons .bool (.cons .bool (.cons I (.cons I Z22))))))))),(.sl (.cons I Z32)),(.sl (.cons I Z9))])),(.box Z5),(.box Z5),J,(.ow (.one .bool)),J]) [3,4,5,8,9,10] [.ret (shps [J]) [6],.exit 0 (shps []) []] gbw_2042F) :: []
theorem gbwc1:CutsOk tP gbwC gbwB gbwk1 :=
 CutsOk.loop tM rfl gbwL .nil _ _ _ _ _ (by kernel_rfl) (by kernel_rfl) fun x => by kernel_rfl
def gbwE:Entry:=⟨104,gbwa,J,gbwo,fun x => gbw x.1.1 x.1.2.1 x.1.2.2.1 x.1.2.2.2.1 x.2.1.1 x.2.1.2.1 x.2.2.1.1 x.2.2.1.2.1⟩
theorem gbwK:EntryOk tP gbwE :=
 entry_ok tM rfl gbwL func104 (by kernel_rfl) (by kernel_rfl) gbwc1 [] _ _ _ _ (fun x => by kernel_rfl) fun x => by kernel_rfl
def gbxC:Ctx:=⟨tP,2,0,[(1,[1])],[],[]⟩
def gbxB:=bd f34
def gbxa:Shps:=(shps [])
def gbxo:Shps:=(shps [])
def gbxE:Entry:=⟨34,gbxa,(.agg (shps [J,J])),gbxo,fun x => gbx⟩
theorem gbxK:EntryOk tP gbxE :=
 entry_ok tM rfl k0 func34 (by kernel_rfl) (by kernel_rfl) (CutsOk.nil (C:=gbxC) (root:=gbxB)) [] _ _ _ _ (fun x => by kernel_rfl) fun x => by kernel_rfl
def gbyC:Ctx:=⟨tP,84,0,[(1,[12,13,14,15]),(3,[17,18,19]),(6,[20,21,22,23,24]),(8,[28,29,30,31,32,33]),(9,[34]),(10,[35,36]),(11,[38]),(12,[39,40,41,42]),(13,[44,45,46,47,48,49,50,51,52,53,54,55,56,57,58,59,60,61,62,63,64,65,66,67,68,69,70,71,72,73,74,75,76,77,78]),(14,[79,80,81,82]),(7,[26,27]),(15,[83])],[],[]⟩
def gbyB:=bd f70
def gbya:Shps:=(shps [(.agg (shps [(.sl Z18),(.sl (.cons I (.cons I (.cons I (.cons I (.cons .bool (.cons .bool (.cons I (.cons I Z22))))))))),(.sl (.cons I Z32)),(.sl (.cons I Z9))])),(.agg Z5),(.agg Z5)])
def gbyo:Shps:=(shps [])
theorem gbyL:Ok [gbwE,gbjE,gbxE,gbmE,gbnE]:=kc gbwK (kc gbjK (kc gbxK (kc gbmK (kc gbnK k0))))
def gbyk1:Cs:=(32039,cutOf (shps [(.box (shps [(.sl Z18),(.sl (.cons I (.cons I (.cons I (.cons I (.cons .bool (.cons .bool (.cons I (.cons I Z22))))))))),(.sl (.cons I Z32)),(.sl (.cons I Z9))])),(.box Z5),(.box Z5),(.ow (.one .bool)),(.ow Z22),J,(.box (shps [J,J]))]) [3,4,5,7,8,9,11] [.norm (shps [(.box (shps [(.sl Z18),(.sl (.cons I (.cons I (.cons I (.cons I (.cons .bool (.cons .bool (.cons I (.cons I Z22))))))))),(.sl (.cons I Z32)),(.sl (.cons I Z9))])),(.box Z5),(.box Z5),(.ow (.one .bool)),(.ow Z22),J]) [3,4,5,7,8,9]] fun x => gby_32039 x.1.1 x.1.2.1 x.1.2.2.1 x.1.2.2.2.1 x.2.1.1 x.2.1.2.1 x.2.2.1.1 x.2.2.1.2.1 x.2.2.2.1 x.2.2.2.2.1 x.2.2.2.2.2.1 x.2.2.2.2.2.2.1.1 x.2.2.2.2.2.2.1.2.1) :: []
theorem gbyc1:CutsOk tP gbyC gbyB gbyk1 :=
 CutsOk.cut tM rfl gbyL .nil _ _ _ _ _ (by kernel_rfl) fun x => by kernel_rfl
def gbyk2:Cs:=(250,loopOf (shps [(.box (shps [(.sl Z18),(.sl (.cons I (.cons I (.cons I (.cons I (.cons .bool (.cons .bool (.cons I (.cons I Z22))))))))),(.sl (.cons I Z32)),(.sl (.cons I Z9))])),(.box Z5),(.box Z5),(.ow (.one .bool)),(.ow Z22),J]) [3,4,5,7,8,9] [.exit 0 (shps [(.ow Z22)]) [8]] gby_250F) :: gbyk1
theorem gbyc2:CutsOk tP gbyC gbyB gbyk2 :=
 CutsOk.loop tM rfl gbyL gbyc1 _ _ _ _ _ (by kernel_rfl) (by kernel_rfl) fun x => by kernel_rfl
def gbyE:Entry:=⟨70,gbya,(.ow Z22),gbyo,fun x => gby x.1.1 x.1.2.1 x.1.2.2.1 x.1.2.2.2.1 x.2.1.1 x.2.1.2.1 x.2.2.1.1 x.2.2.1.2.1⟩
theorem gbyK:EntryOk tP gbyE :=
 entry_ok tM rfl gbyL func70 (by kernel_rfl) (by kernel_rfl) gbyc2 [] _ _ _ _ (fun x => by kernel_rfl) fun x => by kernel_rfl
def gbzC:Ctx:=⟨tP,56,0,[(1,[12,13]),(2,[14]),(3,[16]),(4,[17,18,19]),(6,[21,22,23,24,25,26]),(7,[27]),(8,[29,30,31,32]),(11,[33,34,35,36,37]),(13,[41]),(14,[42,43,44,45,46,47,48]),(15,[50]),(16,[51,52,53,54]),(12,[39,40]),(17,[55])],[],[]⟩
def gbzB:=bd f36
def gbza:Shps:=(shps [(.agg (shps [(.sl Z18),(.sl (.cons I (.cons I (.cons I (.cons I (.cons .bool (.cons .bool (.cons I (.cons I Z22))))))))),(.sl (.cons I Z32)),(.sl (.cons I Z9))])),(.agg Z5)])
def gbzo:Shps:=(shps [])
theorem gbzL:Ok [gbbE,gbcE,gbvE,gbyE,gbxE]:=kc gbbK (kc gbcK (kc gbvK (kc gbyK (kc gbxK k0))))
def gbzk1:Cs:=(65171,cutOf (shps [(.box (shps [(.sl Z18),(.sl (.cons I (.cons I (.cons I (.cons I (.cons .bool (.cons .bool (.cons I (.cons I Z22))))))))),(.sl (.cons I Z32)),(.sl (.cons I Z9))])),(.ow Z22),J,(.box (shps [J,J]))]) [2,9,10,11] [.norm (shps [(.box (shps [(.sl Z18),(.sl (.cons I (.cons I (.cons I (.cons I (.cons .bool (.cons .bool (.cons I (.cons I Z22))))))))),(.sl (.cons I Z32)),(.sl (.cons I Z9))])),(.ow Z22),J]) [2,9,10]] fun x => gbz_65171 x.1.1 x.1.2.1 x.1.2.2.1 x.1.2.2.2.1 x.2.1 x.2.2.1 x.2.2.2.1.1 x.2.2.2.1.2.1) :: []
theorem gbzc1:CutsOk tP gbzC gbzB gbzk1 :=
 CutsOk.cut tM rfl gbzL .nil _ _ _ _ _ (by kernel_rfl) fun x => by kernel_rfl
def gbzk2:Cs:=(1018,loopOf (shps [(.box (shps [(.sl Z18),(.sl (.cons I (.cons I (.cons I (.cons I (.cons .bool (.cons .bool (.cons I (.cons I Z22))))))))),(.sl (.cons I Z32)),(.sl (.cons I Z9))])),(.ow Z22),J]) [2,9,10] [.exit 0 (shps [(.ow Z22)]) [9]] gbz_1018F) :: gbzk1
theorem gbzc2:CutsOk tP gbzC gbzB gbzk2 :=
 CutsOk.loop tM rfl gbzL gbzc1 _ _ _ _ _ (by kernel_rfl) (by kernel_rfl) fun x => by kernel_rfl
def gbzE:Entry:=⟨36,gbza,(.tup (shps [(.ow Z22),J])),gbzo,fun x => gbz x.1.1 x.1.2.1 x.1.2.2.1 x.1.2.2.2.1 x.2.1.1 x.2.1.2.1⟩
theorem gbzK:EntryOk tP gbzE :=
 entry_ok tM rfl gbzL func36 (by kernel_rfl) (by kernel_rfl) gbzc2 [] _ _ _ _ (fun x => by kernel_rfl) fun x => by kernel_rfl
def gcaC:Ctx:=⟨tP,2,0,[(1,[1])],[],[]⟩
def gcaB:=bd f53
def gcaa:Shps:=(shps [])
def gcao:Shps:=(shps [])
def gcaE:Entry:=⟨53,gcaa,(.agg Z20),gcao,fun x => gca⟩
theorem gcaK:EntryOk tP gcaE :=
 entry_ok tM rfl k0 func53 (by kernel_rfl) (by kernel_rfl) (CutsOk.nil (C:=gcaC) (root:=gcaB)) [] _ _ _ _ (fun x => by kernel_rfl) fun x => by kernel_rfl
def gcbC:Ctx:=⟨tP,30,1,[(2,[7,8]),(4,[12]),(5,[13]),(6,[16]),(7,[17]),(8,[19]),(9,[20,21,22,23]),(10,[24,25,26,27]),(11,[28]),(12,[29])],[],[]⟩
def gcbB:=bd f17
def gcba:Shps:=(shps [(.box Z2),(.agg (shps [(.sl Z18),(.sl (.cons I (.cons I (.cons I (.cons I (.cons .bool (.cons .bool (.cons I (.cons I Z22))))))))),(.sl (.cons I Z32)),(.sl (.cons I Z9)),(.sl (.cons I (.cons I (.cons I (.cons I (.cons I (.cons I Z22))))))),(.sl (.cons I (.cons I (.cons I (.cons I Z22))))),(.sl (.cons (.sl (.cons I (.cons I Z22))) (.cons I Z11))),(.sl (.one I))]))])
def gcbo:Shps:=(shps [(.box Z2)])
theorem gcbL:Ok [gcaE,gabE]:=kc gcaK (kc gabK k0)
def gcbk1:Cs:=(7475,cutOf (shps [(.box Z2),(.ow Z29),(.box Z20),J,J]) [0,5,6,9,10] [.norm (shps [(.box Z2),(.ow Z29),J,J]) [0,5,9,10]] fun x => gcb_7475 x.1.1 x.1.2.1 x.2.1 x.2.2.1.1 x.2.2.1.2.1 x.2.2.1.2.2.1 x.2.2.2.1 x.2.2.2.2.1) :: []
theorem gcbc1:CutsOk tP gcbC gcbB gcbk1 :=
 CutsOk.cut tM rfl gcbL .nil _ _ _ _ _ (by kernel_rfl) fun x => by kernel_rfl
def gcbk2:Cs:=(58,loopOf (shps [(.box Z2),(.ow Z29),J,J]) [0,5,9,10] [.exit 0 (shps [(.box Z2),(.ow Z29)]) [0,5]] gcb_58F) :: gcbk1
theorem gcbc2:CutsOk tP gcbC gcbB gcbk2 :=
 CutsOk.loop tM rfl gcbL gcbc1 _ _ _ _ _ (by kernel_rfl) (by kernel_rfl) fun x => by kernel_rfl
def gcbE:Entry:=⟨17,gcba,(.ow Z29),gcbo,fun x => gcb x.1.1 x.1.2.1 x.2.1.1 x.2.1.2.1 x.2.1.2.2.1 x.2.1.2.2.2.1 x.2.1.2.2.2.2.1 x.2.1.2.2.2.2.2.1 x.2.1.2.2.2.2.2.2.1 x.2.1.2.2.2.2.2.2.2.1⟩
theorem gcbK:EntryOk tP gcbE :=
 entry_ok tM rfl gcbL func17 (by kernel_rfl) (by kernel_rfl) gcbc2 [] _ _ _ _ (fun x => by kernel_rfl) fun x => by kernel_rfl
def gccC:Ctx:=⟨tP,24,0,[(1,[7,8,9,10,11,12,13,14,15,16,17,18,19,20,21,22,23])],[],[]⟩
def gccB:=bd f112
def gcca:Shps:=(shps [(.agg (shps [J,J])),J,J])
def gcco:Shps:=(shps [])
def gccE:Entry:=⟨112,gcca,.bool,gcco,fun x => gcc x.1.1 x.1.2.1 x.2.1 x.2.2.1⟩
theorem gccK:EntryOk tP gccE :=
 entry_ok tM rfl k0 func112 (by kernel_rfl) (by kernel_rfl) (CutsOk.nil (C:=gccC) (root:=gccB)) [] _ _ _ _ (fun x => by kernel_rfl) fun x => by kernel_rfl
def gcdC:Ctx:=⟨tP,100,0,[(1,[8,9,10,11,12,13,14,15,16]),(3,[18]),(5,[23,24]),(6,[25,26,27,28,29,30,31]),(8,[33]),(9,[34,35,36]),(10,[37]),(12,[42,43]),(13,[44,45,46,47,48,49,50,51,52,53,54,55,56,57,58,59,60,61,62,63,64,65,66,67,68,69]),(15,[71,72,73,74,75,76,77,78,79,80,81,82,83,84,85,86,87]),(17,[89,90,91,92,93,94,95,96,97]),(19,[99])],[],[]⟩
def gcdB:=bd f76
def gcda:Shps:=(shps [(.agg (shps [(.sl Z18),(.sl (.cons I (.cons I (.cons I (.cons I (.cons .bool (.cons .bool (.cons I (.cons I Z22)))))))))]))])
def gcdo:Shps:=(shps [])
theorem gcdL:Ok [gccE]:=kc gccK k0
def gcdk1:Cs:=(58,loopOf (shps [(.box (shps [(.sl Z18),(.sl (.cons I (.cons I (.cons I (.cons I (.cons .bool (.cons .bool (.cons I (.cons I Z22)))))))))])),(.sl Z18),J,J]) [1,19,20,21] [.ret (shps [J]) [2],.exit 0 (shps [(.box (shps [(.sl Z18),(.sl (.cons I (.cons I (.cons I (.cons I (.cons .bool (.cons .bool (.cons I (.cons I Z22)))))))))]))]) [1]] gcd_58F) :: []
theorem gcdc1:CutsOk tP gcdC gcdB gcdk1 :=
 CutsOk.loop tM rfl gcdL .nil _ _ _ _ _ (by kernel_rfl) (by kernel_rfl) fun x => by kernel_rfl
def gcdk2:Cs:=(250,loopOf (shps [J,(.sl (.cons I (.cons I (.cons I (.cons I (.cons .bool (.cons .bool (.cons I (.cons I Z22))))))))),J,J]) [5,38,39,40] [.ret (shps [J]) [2],.exit 2 (shps []) []] gcd_250F) :: gcdk1
theorem gcdc2:CutsOk tP gcdC gcdB gcdk2 :=
 CutsOk.loop tM rfl gcdL gcdc1 _ _ _ _ _ (by kernel_rfl) (by kernel_rfl) fun x => by kernel_rfl
def gcdE:Entry:=⟨76,gcda,J,gcdo,fun x => gcd x.1.1 x.1.2.1⟩
theorem gcdK:EntryOk tP gcdE :=
 entry_ok tM rfl gcdL func76 (by kernel_rfl) (by kernel_rfl) gcdc2 [] _ _ _ _ (fun x => by kernel_rfl) fun x => by kernel_rfl
def gceC:Ctx:=⟨tP,71,0,[(1,[5,6]),(3,[8,9,10,11,12,13,14,15,16]),(5,[18]),(7,[23,24,25]),(8,[26,27,28,29,30,31,32,33,34,35,36,37,38,39,40,41,42]),(10,[44,45,46,47,48,49,50,51,52,53,54,55,56,57,58,59,60,61,62,63,64,65,66,67,68]),(12,[70])],[],[]⟩
def gceB:=bd f77
def gcea:Shps:=(shps [(.agg Z27)])
def gceo:Shps:=(shps [])
def gcek1:Cs:=(122,loopOf (shps [(.box Z27),(.sl Z22),J,J]) [1,19,20,21] [.ret (shps [J]) [2],.exit 0 (shps []) []] gce_122F) :: []
theorem gcec1:CutsOk tP gceC gceB gcek1 :=
 CutsOk.loop tM rfl k0 .nil _ _ _ _ _ (by kernel_rfl) (by kernel_rfl) fun x => by kernel_rfl
def gceE:Entry:=⟨77,gcea,J,gceo,fun x => gce x.1.1 x.1.2.1 x.1.2.2.1 x.1.2.2.2.1⟩
theorem gceK:EntryOk tP gceE :=
 entry_ok tM rfl k0 func77 (by kernel_rfl) (by kernel_rfl) gcec1 [] _ _ _ _ (fun x => by kernel_rfl) fun x => by kernel_rfl
def gcfC:Ctx:=⟨tP,95,0,[(1,[8,9]),(5,[15,16,17]),(6,[18,19]),(8,[21,22,23,24,25,26,27,28,29]),(11,[31]),(13,[36,37,38]),(14,[39,40,41,42,43]),(16,[45,46,47,48,49,50,51,52,53,54,55,56,57,58,59]),(17,[60]),(18,[61]),(20,[63,64,65,66,67,68,69,70,71,72,73,74,75,76,77,78,79,80,81,82,83,84,85,86,87,88,89,90,91,92]),(22,[94])],[],[]⟩
def gcfB:=bd f78
def gcfa:Shps:=(shps [(.sl (.cons I Z9))])
def gcfo:Shps:=(shps [])
def gcfk1:Cs:=(239226,loopOf (shps [(.sl (.cons I Z9)),J,(.box Z13),.bool,(.sl (.cons I Z9)),J,J,(.sl (.one I)),J,J]) [0,3,4,5,11,12,13,32,33,34] [.ret (shps [J]) [2],.exit 2 (shps [(.sl (.cons I Z9)),J,(.box Z13),.bool,(.sl (.cons I Z9)),J,J]) [0,3,4,5,11,12,13]] gcf_239226F) :: []
theorem gcfc1:CutsOk tP gcfC gcfB gcfk1 :=
 CutsOk.loop tM rfl k0 .nil _ _ _ _ _ (by kernel_rfl) (by kernel_rfl) fun x => by kernel_rfl
def gcfk2:Cs:=(58,loopOf (shps [(.sl (.cons I Z9)),(.sl (.cons I Z9)),J,J]) [0,11,12,13] [.ret (shps [J]) [2],.exit 0 (shps []) []] gcf_58F) :: gcfk1
theorem gcfc2:CutsOk tP gcfC gcfB gcfk2 :=
 CutsOk.loop tM rfl k0 gcfc1 _ _ _ _ _ (by kernel_rfl) (by kernel_rfl) fun x => by kernel_rfl
def gcfE:Entry:=⟨78,gcfa,J,gcfo,fun x => gcf x.1⟩
theorem gcfK:EntryOk tP gcfE :=
 entry_ok tM rfl k0 func78 (by kernel_rfl) (by kernel_rfl) gcfc2 [] _ _ _ _ (fun x => by kernel_rfl) fun x => by kernel_rfl
def gcgC:Ctx:=⟨tP,61,0,[(1,[10,11,12]),(2,[13]),(3,[15]),(4,[16,17,18]),(6,[20]),(8,[25,26]),(9,[27,28]),(10,[29]),(11,[31]),(12,[32,33,34,35,36,37]),(14,[39]),(15,[40,41,42]),(16,[43]),(17,[45]),(18,[46]),(20,[51,52]),(21,[53,54,55,56,57,58]),(23,[60])],[],[]⟩
def gcgB:=bd f44
def gcga:Shps:=(shps [(.agg (shps [(.sl Z18),(.sl (.cons I (.cons I (.cons I (.cons I (.cons .bool (.cons .bool (.cons I (.cons I Z22))))))))),(.sl (.cons I Z32)),(.sl (.cons I Z9))]))])
def gcgo:Shps:=(shps [])
theorem gcgL:Ok [gcdE,gceE,gcfE]:=kc gcdK (kc gceK (kc gcfK k0))
def gcgk1:Cs:=(122,loopOf (shps [(.box (shps [(.sl Z18),(.sl (.cons I (.cons I (.cons I (.cons I (.cons .bool (.cons .bool (.cons I (.cons I Z22))))))))),(.sl (.cons I Z32)),(.sl (.cons I Z9))])),(.sl (.cons I Z32)),J,J]) [1,21,22,23] [.ret (shps [J]) [2],.exit 0 (shps [(.box (shps [(.sl Z18),(.sl (.cons I (.cons I (.cons I (.cons I (.cons .bool (.cons .bool (.cons I (.cons I Z22))))))))),(.sl (.cons I Z32)),(.sl (.cons I Z9))]))]) [1]] gcg_122F) :: []
theorem gcgc1:CutsOk tP gcgC gcgB gcgk1 :=
 CutsOk.loop tM rfl gcgL .nil _ _ _ _ _ (by kernel_rfl) (by kernel_rfl) fun x => by kernel_rfl
def gcgk2:Cs:=(506,loopOf (shps [(.box (shps [(.sl Z18),(.sl (.cons I (.cons I (.cons I (.cons I (.cons .bool (.cons .bool (.cons I (.cons I Z22))))))))),(.sl (.cons I Z32)),(.sl (.cons I Z9))])),(.sl (.cons I Z9)),J,J]) [1,47,48,49] [.ret (shps [J]) [2],.exit 2 (shps []) []] gcg_506F) :: gcgk1
theorem gcgc2:CutsOk tP gcgC gcgB gcgk2 :=
 CutsOk.loop tM rfl gcgL gcgc1 _ _ _ _ _ (by kernel_rfl) (by kernel_rfl) fun x => by kernel_rfl
def gcgE:Entry:=⟨44,gcga,J,gcgo,fun x => gcg x.1.1 x.1.2.1 x.1.2.2.1 x.1.2.2.2.1⟩
theorem gcgK:EntryOk tP gcgE :=
 entry_ok tM rfl gcgL func44 (by kernel_rfl) (by kernel_rfl) gcgc2 [] _ _ _ _ (fun x => by kernel_rfl) fun x => by kernel_rfl
def gchC:Ctx:=⟨tP,24,0,[(3,[13,14]),(4,[15,16,17,18,19,20,21]),(6,[23])],[],[]⟩
def gchB:=bd f113
def gcha:Shps:=Z13
def gcho:Shps:=(shps [])
def gchk1:Cs:=(26,loopOf (shps [J,J,(.sl (.one I)),J,J]) [0,1,9,10,11] [.ret Z26 [6],.exit 0 (shps []) []] gch_26F) :: []
theorem gchc1:CutsOk tP gchC gchB gchk1 :=
 CutsOk.loop tM rfl k0 .nil _ _ _ _ _ (by kernel_rfl) (by kernel_rfl) fun x => by kernel_rfl
def gchE:Entry:=⟨113,gcha,.bool,gcho,fun x => gch x.1 x.2.1 x.2.2.1⟩
theorem gchK:EntryOk tP gchE :=
 entry_ok tM rfl k0 func113 (by kernel_rfl) (by kernel_rfl) gchc1 [] _ _ _ _ (fun x => by kernel_rfl) fun x => by kernel_rfl
def gciC:Ctx:=⟨tP,44,0,[(1,[4,5,6,7,8]),(3,[10,11,12,13,14,15,16,17,18,19,20,21,22,23,24,25,26,27,28]),(5,[30,31,32,33,34,35,36,37,38,39,40,41,42,43])],[],[]⟩
def gciB:=bd f79
def gcia:Shps:=(shps [(.agg Z10)])
def gcio:Shps:=(shps [])
theorem gciL:Ok [gchE]:=kc gchK k0
def gciE:Entry:=⟨79,gcia,J,gcio,fun x => gci x.1.1 x.1.2.1 x.1.2.2.1 x.1.2.2.2.1 x.1.2.2.2.2.1 x.1.2.2.2.2.2.1 x.1.2.2.2.2.2.2.1 x.1.2.2.2.2.2.2.2.1⟩
theorem gciK:EntryOk tP gciE :=
 entry_ok tM rfl gciL func79 (by kernel_rfl) (by kernel_rfl) (CutsOk.nil (C:=gciC) (root:=gciB)) [] _ _ _ _ (fun x => by kernel_rfl) fun x => by kernel_rfl
def gcjC:Ctx:=⟨tP,12,0,[(1,[5,6,7,8,9,10,11])],[],[]⟩
def gcjB:=bd f54
def gcja:Shps:=(shps [J,J])
def gcjo:Shps:=(shps [])
def gcjE:Entry:=⟨54,gcja,.bool,gcjo,fun x => gcj x.1 x.2.1⟩
theorem gcjK:EntryOk tP gcjE :=
 entry_ok tM rfl k0 func54 (by kernel_rfl) (by kernel_rfl) (CutsOk.nil (C:=gcjC) (root:=gcjB)) [] _ _ _ _ (fun x => by kernel_rfl) fun x => by kernel_rfl
def gckC:Ctx:=⟨tP,62,0,[(1,[9]),(3,[14,15,16]),(4,[17,18]),(5,[19]),(6,[21]),(7,[22,23,24,25,26]),(8,[27]),(9,[30]),(10,[31,32,33,34]),(11,[36]),(12,[37,38,39,40]),(13,[41,42,43,44]),(15,[46,47,48]),(17,[53,54]),(18,[55,56,57,58]),(20,[60]),(21,[61])],[],[]⟩
def gckB:=bd f45
def gcka:Shps:=(shps [(.agg (shps [(.sl Z18),(.sl (.cons I (.cons I (.cons I (.cons I (.cons .bool (.cons .bool (.cons I (.cons I Z22))))))))),(.sl (.cons I Z32)),(.sl (.cons I Z9)),(.sl (.cons I (.cons I (.cons I (.cons I (.cons I (.cons I Z22))))))),(.sl (.cons I (.cons I (.cons I (.cons I Z22))))),(.sl (.cons (.sl (.cons I (.cons I Z22))) (.cons I Z11))),(.sl (.one I))]))])
def gcko:Shps:=(shps [])
theorem gckL:Ok [gciE,gcjE]:=kc gciK (kc gcjK k0)
def gckk1:Cs:=(108158,loopOf (shps [(.box (shps [(.sl Z18),(.sl (.cons I (.cons I (.cons I (.cons I (.cons .bool (.cons .bool (.cons I (.cons I Z22))))))))),(.sl (.cons I Z32)),(.sl (.cons I Z9)),(.sl (.cons I (.cons I (.cons I (.cons I (.cons I (.cons I Z22))))))),(.sl (.cons I (.cons I (.cons I (.cons I Z22))))),(.sl (.cons (.sl (.cons I (.cons I Z22))) (.cons I Z11))),(.sl (.one I))])),(.box Z10),(.sl (.cons I (.cons I (.cons I (.cons I (.cons I (.cons I Z22))))))),J,J,(.sl (.cons I (.cons I (.cons I (.cons I (.cons I (.cons I Z22))))))),J,J]) [1,4,10,11,12,49,50,51] [.ret (shps [J]) [2],.exit 3 (shps [(.box (shps [(.sl Z18),(.sl (.cons I (.cons I (.cons I (.cons I (.cons .bool (.cons .bool (.cons I (.cons I Z22))))))))),(.sl (.cons I Z32)),(.sl (.cons I Z9)),(.sl (.cons I (.cons I (.cons I (.cons I (.cons I (.cons I Z22))))))),(.sl (.cons I (.cons I (.cons I (.cons I Z22))))),(.sl (.cons (.sl (.cons I (.cons I Z22))) (.cons I Z11))),(.sl (.one I))])),(.sl (.cons I (.cons I (.cons I (.cons I (.cons I (.cons I Z22))))))),J,J]) [1,10,11,12]] gck_108158F) :: []
theorem gckc1:CutsOk tP gckC gckB gckk1 :=
 CutsOk.loop tM rfl gckL .nil _ _ _ _ _ (by kernel_rfl) (by kernel_rfl) fun x => by kernel_rfl
def gckk2:Cs:=(13519,cutOf (shps [(.box (shps [(.sl Z18),(.sl (.cons I (.cons I (.cons I (.cons I (.cons .bool (.cons .bool (.cons I (.cons I Z22))))))))),(.sl (.cons I Z32)),(.sl (.cons I Z9)),(.sl (.cons I (.cons I (.cons I (.cons I (.cons I (.cons I Z22))))))),(.sl (.cons I (.cons I (.cons I (.cons I Z22))))),(.sl (.cons (.sl (.cons I (.cons I Z22))) (.cons I Z11))),(.sl (.one I))])),J,(.box Z10),J,(.sl (.cons I (.cons I (.cons I (.cons I (.cons I (.cons I Z22))))))),J,J]) [1,3,4,6,10,11,12] [.ret (shps [J]) [2],.norm (shps [(.box (shps [(.sl Z18),(.sl (.cons I (.cons I (.cons I (.cons I (.cons .bool (.cons .bool (.cons I (.cons I Z22))))))))),(.sl (.cons I Z32)),(.sl (.cons I Z9)),(.sl (.cons I (.cons I (.cons I (.cons I (.cons I (.cons I Z22))))))),(.sl (.cons I (.cons I (.cons I (.cons I Z22))))),(.sl (.cons (.sl (.cons I (.cons I Z22))) (.cons I Z11))),(.sl (.one I))])),(.sl (.cons I (.cons I (.cons I (.cons I (.cons I (.cons I Z22))))))),J,J]) [1,10,11,12]] fun x => gck_13519 x.1.1 x.1.2.1 x.1.2.2.1 x.1.2.2.2.1 x.1.2.2.2.2.1 x.1.2.2.2.2.2.1 x.1.2.2.2.2.2.2.1 x.1.2.2.2.2.2.2.2.1 x.2.1 x.2.2.1.1 x.2.2.1.2.1 x.2.2.1.2.2.1 x.2.2.1.2.2.2.1 x.2.2.1.2.2.2.2.1 x.2.2.1.2.2.2.2.2.1 x.2.2.1.2.2.2.2.2.2.1 x.2.2.1.2.2.2.2.2.2.2.1 x.2.2.2.1 x.2.2.2.2.1 x.2.2.2.2.2.1 x.2.2.2.2.2.2.1) :: gckk1
theorem gckc2:CutsOk tP gckC gckB gckk2 :=
 CutsOk.cut tM rfl gckL gckc1 _ _ _ _ _ (by kernel_rfl) fun x => by kernel_rfl
def gckk3:Cs:=(26,loopOf (shps [(.box (shps [(.sl Z18),(.sl (.cons I (.cons I (.cons I (.cons I (.cons .bool (.cons .bool (.cons I (.cons I Z22))))))))),(.sl (.cons I Z32)),(.sl (.cons I Z9)),(.sl (.cons I (.cons I (.cons I (.cons I (.cons I (.cons I Z22))))))),(.sl (.cons I (.cons I (.cons I (.cons I Z22))))),(.sl (.cons (.sl (.cons I (.cons I Z22))) (.cons I Z11))),(.sl (.one I))])),(.sl (.cons I (.cons I (.cons I (.cons I (.cons I (.cons I Z22))))))),J,J]) [1,10,11,12] [.ret (shps [J]) [2],.exit 0 (shps []) []] gck_26F) :: gckk2
theorem gckc3:CutsOk tP gckC gckB gckk3 :=
 CutsOk.loop tM rfl gckL gckc2 _ _ _ _ _ (by kernel_rfl) (by kernel_rfl) fun x => by kernel_rfl
def gckE:Entry:=⟨45,gcka,J,gcko,fun x => gck x.1.1 x.1.2.1 x.1.2.2.1 x.1.2.2.2.1 x.1.2.2.2.2.1 x.1.2.2.2.2.2.1 x.1.2.2.2.2.2.2.1 x.1.2.2.2.2.2.2.2.1⟩
theorem gckK:EntryOk tP gckE :=
 entry_ok tM rfl gckL func45 (by kernel_rfl) (by kernel_rfl) gckc3 [] _ _ _ _ (fun x => by kernel_rfl) fun x => by kernel_rfl
def gclC:Ctx:=⟨tP,28,0,[(1,[3,4,5,6,7,8,9,10,11,12,13,14,15,16,17,18,19,20,21,22,23,24,25,26])],[],[]⟩
def gclB:=bd f80
def gcla:Shps:=(shps [(.agg Z25)])
def gclo:Shps:=(shps [])
def gclE:Entry:=⟨80,gcla,J,gclo,fun x => gcl x.1.1 x.1.2.1 x.1.2.2.1⟩
theorem gclK:EntryOk tP gclE :=
 entry_ok tM rfl k0 func80 (by kernel_rfl) (by kernel_rfl) (CutsOk.nil (C:=gclC) (root:=gclB)) [] _ _ _ _ (fun x => by kernel_rfl) fun x => by kernel_rfl
def gcmC:Ctx:=⟨tP,62,0,[(1,[5]),(3,[8]),(4,[9]),(5,[10]),(6,[11,12,13,14,15,16]),(8,[19]),(9,[20,21,22,23,24,25,26,27,28,29,30,31,32,33,34,35]),(11,[38]),(12,[39,40,41,42,43,44,45,46]),(14,[48,49,50,51,52,53,54]),(16,[56,57]),(17,[59,60,61])],[],[]⟩
def gcmB:=bd f46
def gcma:Shps:=(shps [(.agg (shps [(.sl Z18),(.sl (.cons I (.cons I (.cons I (.cons I (.cons .bool (.cons .bool (.cons I (.cons I Z22))))))))),(.sl (.cons I Z32)),(.sl (.cons I Z9)),(.sl (.cons I (.cons I (.cons I (.cons I (.cons I (.cons I Z22))))))),(.sl (.cons I (.cons I (.cons I (.cons I Z22))))),(.sl (.cons (.sl (.cons I (.cons I Z22))) (.cons I Z11))),(.sl (.one I))])),(.agg Z17)])
def gcmo:Shps:=(shps [])
theorem gcmL:Ok [gcjE,gclE]:=kc gcjK (kc gclK k0)
def gcmk1:Cs:=(53,cutOf (shps [(.box (shps [(.sl Z18),(.sl (.cons I (.cons I (.cons I (.cons I (.cons .bool (.cons .bool (.cons I (.cons I Z22))))))))),(.sl (.cons I Z32)),(.sl (.cons I Z9)),(.sl (.cons I (.cons I (.cons I (.cons I (.cons I (.cons I Z22))))))),(.sl (.cons I (.cons I (.cons I (.cons I Z22))))),(.sl (.cons (.sl (.cons I (.cons I Z22))) (.cons I Z11))),(.sl (.one I))])),(.box Z17),J,.bool]) [2,3,6,7] [.ret (shps [J]) [4],.norm (shps [(.box Z17)]) [3]] fun x => gcm_53 x.1.1 x.1.2.1 x.1.2.2.1 x.1.2.2.2.1 x.1.2.2.2.2.1 x.1.2.2.2.2.2.1 x.1.2.2.2.2.2.2.1 x.1.2.2.2.2.2.2.2.1 x.2.1.1 x.2.1.2.1 x.2.1.2.2.1 x.2.1.2.2.2.1 x.2.1.2.2.2.2.1 x.2.1.2.2.2.2.2.1 x.2.2.1 x.2.2.2.1) :: []
theorem gcmc1:CutsOk tP gcmC gcmB gcmk1 :=
 CutsOk.cut tM rfl gcmL .nil _ _ _ _ _ (by kernel_rfl) fun x => by kernel_rfl
def gcmk2:Cs:=(7,cutOf (shps [(.box Z17)]) [3] [.ret (shps [J]) [4]] fun x => gcm_7 x.1.1 x.1.2.1 x.1.2.2.1 x.1.2.2.2.1 x.1.2.2.2.2.1 x.1.2.2.2.2.2.1) :: gcmk1
theorem gcmc2:CutsOk tP gcmC gcmB gcmk2 :=
 CutsOk.cut tM rfl gcmL gcmc1 _ _ _ _ _ (by kernel_rfl) fun x => by kernel_rfl
def gcmE:Entry:=⟨46,gcma,J,gcmo,fun x => gcm x.1.1 x.1.2.1 x.1.2.2.1 x.1.2.2.2.1 x.1.2.2.2.2.1 x.1.2.2.2.2.2.1 x.1.2.2.2.2.2.2.1 x.1.2.2.2.2.2.2.2.1 x.2.1.1 x.2.1.2.1 x.2.1.2.2.1 x.2.1.2.2.2.1 x.2.1.2.2.2.2.1 x.2.1.2.2.2.2.2.1⟩
theorem gcmK:EntryOk tP gcmE :=
 entry_ok tM rfl gcmL func46 (by kernel_rfl) (by kernel_rfl) gcmc2 [] _ _ _ _ (fun x => by kernel_rfl) fun x => by kernel_rfl
def gcnC:Ctx:=⟨tP,122,0,[(1,[16]),(3,[18,19,20,21]),(4,[22]),(5,[25]),(6,[26,27,28,29,30,31,32,33,34,35,36,37,38,39,40,41,42,43,44]),(7,[46]),(8,[47,48,49,50,51,52,53,54]),(9,[55,56,57,58,59,60,61,62,63,64,65,66,67,68,69,70,71,72,73,74,75]),(10,[77]),(11,[78]),(12,[79,80,81,82,83,84,85,86]),(13,[87,88,89,90,91,92,93,94,95,96,97,98,99,100,101,102,103,104,105,106]),(15,[108,109,110,111,112,113,114,115]),(16,[116,117,118,119,120,121])],[],[]⟩
def gcnB:=bd f115
def gcna:Shps:=(shps [(.sl (.cons I (.cons I Z22))),J])
def gcno:Shps:=(shps [])
def gcnR (rec:(List (Int×Int×Int×Int)×Int×Unit)→Option ((Int×Int×Bool×Unit)×Unit)):Entry:=⟨115,gcna,(.tup Z21),gcno,rec⟩
def gcnO (rec:(List (Int×Int×Int×Int)×Int×Unit)→Option ((Int×Int×Bool×Unit)×Unit)):List Entry:=[gcnR rec]
theorem gcnL (rec:(List (Int×Int×Int×Int)×Int×Unit)→Option ((Int×Int×Bool×Unit)×Unit)) (hrec:EntryOk tP (gcnR rec)):∀ e∈(gcnO rec),EntryOk tP e:=by
 intro e he
 simp only [gcnO,List.mem_cons,List.not_mem_nil,or_false] at he
 rcases he with rfl
 ·exact hrec
def gcnk0 (rec:(List (Int×Int×Int×Int)×Int×Unit)→Option ((Int×Int×Bool×Unit)×Unit)):List (Nat×Cut):=[]
theorem gcnc0 (rec:(List (Int×Int×Int×Int)×Int×Unit)→Option ((Int×Int×Bool×Unit)×Unit)) (hrec:EntryOk tP (gcnR rec)):CutsOk tP gcnC gcnB (gcnk0 rec):=CutsOk.nil
def gcn_3935s:Shps:=(shps [(.sl (.cons I (.cons I Z22))),J,(.box (shps [J,J,J,J])),.bool])
def gcn_3935w:List Way:=[.ret Z21 [4,5,6],.norm (shps []) []]
def gcnk1 (rec:(List (Int×Int×Int×Int)×Int×Unit)→Option ((Int×Int×Bool×Unit)×Unit)):List (Nat×Cut):=(3935,cutOf gcn_3935s [0,1,7,76] gcn_3935w fun x => gcn_3935 rec x.1 x.2.1 x.2.2.1.1 x.2.2.1.2.1 x.2.2.1.2.2.1 x.2.2.1.2.2.2.1 x.2.2.2.1) :: (gcnk0 rec)
theorem gcnc1 (rec:(List (Int×Int×Int×Int)×Int×Unit)→Option ((Int×Int×Bool×Unit)×Unit)) (hrec:EntryOk tP (gcnR rec)):CutsOk tP gcnC gcnB (gcnk1 rec) :=
 CutsOk.cut tM rfl (gcnL rec hrec) (gcnc0 rec hrec) 3935 gcn_3935s [0,1,7,76] gcn_3935w (fun x => gcn_3935 rec x.1 x.2.1 x.2.2.1.1 x.2.2.1.2.1 x.2.2.1.2.2.1 x.2.2.1.2.2.2.1 x.2.2.2.1) (by kernel_rfl) fun x => by kernel_rfl
theorem gcnKb (rec:(List (Int×Int×Int×Int)×Int×Unit)→Option ((Int×Int×Bool×Unit)×Unit)) (hrec:EntryOk tP (gcnR rec)):EntryOk tP ⟨115,gcna,(.tup Z21),gcno,fun x => gcnb rec x.1 x.2.1⟩ :=
 entry_ok tM rfl (gcnL rec hrec) (fn:=f115) func115 (by kernel_rfl) (root:=gcnB) (by kernel_rfl) (gcnc1 rec hrec) [] gcna (.tup Z21) gcno (fun x => gcnb rec x.1 x.2.1) (fun x => by kernel_rfl) fun x => by kernel_rfl
theorem gcnKi:∀ n,EntryOk tP (gcnR (gcni n))
 | 0 => fun x y h => by cases h
 | n + 1 => gcnKb (gcni n) (gcnKi n)
def gcnE:Entry:=⟨115,gcna,(.tup Z21),gcno,fun x => gcn x.1 x.2.1⟩
theorem gcnK:EntryOk tP gcnE:=gcnKi 1000000
def gcoC:Ctx:=⟨tP,32,0,[(1,[6,7,8,9,10,11,12]),(3,[14,15,16,17,18,19,20,21,22]),(4,[23,24,25,26,27,28,29,30,31])],[],[]⟩
def gcoB:=bd f98
def gcoa:Shps:=(shps [(.sl (.cons I (.cons I Z22)))])
def gcoo:Shps:=(shps [])
theorem gcoL:Ok [gcnE]:=kc gcnK k0
def gcoE:Entry:=⟨98,gcoa,.bool,gcoo,fun x => gco x.1⟩
theorem gcoK:EntryOk tP gcoE :=
 entry_ok tM rfl gcoL func98 (by kernel_rfl) (by kernel_rfl) (CutsOk.nil (C:=gcoC) (root:=gcoB)) [] _ _ _ _ (fun x => by kernel_rfl) fun x => by kernel_rfl
def gcpC:Ctx:=⟨tP,26,0,[(1,[7,8]),(5,[14,15]),(6,[16,17,18,19,20,21,22,23]),(8,[25])],[],[]⟩
def gcpB:=bd f81
def gcpa:Shps:=(shps [(.sl (.cons I (.cons I Z22))),J])
def gcpo:Shps:=(shps [])
theorem gcpL:Ok [gcoE]:=kc gcoK k0
def gcpk1:Cs:=(58,loopOf (shps [J,(.sl (.cons I (.cons I Z22))),J,J]) [1,10,11,12] [.ret (shps [J]) [4],.exit 0 (shps []) []] gcp_58F) :: []
theorem gcpc1:CutsOk tP gcpC gcpB gcpk1 :=
 CutsOk.loop tM rfl gcpL .nil _ _ _ _ _ (by kernel_rfl) (by kernel_rfl) fun x => by kernel_rfl
def gcpE:Entry:=⟨81,gcpa,J,gcpo,fun x => gcp x.1 x.2.1⟩
theorem gcpK:EntryOk tP gcpE :=
 entry_ok tM rfl gcpL func81 (by kernel_rfl) (by kernel_rfl) gcpc1 [] _ _ _ _ (fun x => by kernel_rfl) fun x => by kernel_rfl
def gcqC:Ctx:=⟨tP,66,0,[(1,[8,9,10,11,12,13]),(2,[14]),(3,[16]),(4,[17,18,19,20,21,22,23,24,25,26,27,28,29,30,31,32,33]),(6,[35]),(8,[40,41,42]),(9,[43,44,45,46,47,48,49,50,51,52,53,54,55,56,57,58,59,60,61,62,63]),(11,[65])],[],[]⟩
def gcqB:=bd f47
def gcqa:Shps:=(shps [(.agg (shps [(.sl Z18),(.sl (.cons I (.cons I (.cons I (.cons I (.cons .bool (.cons .bool (.cons I (.cons I Z22))))))))),(.sl (.cons I Z32)),(.sl (.cons I Z9)),(.sl (.cons I (.cons I (.cons I (.cons I (.cons I (.cons I Z22))))))),(.sl (.cons I (.cons I (.cons I (.cons I Z22))))),(.sl (.cons (.sl (.cons I (.cons I Z22))) (.cons I Z11))),(.sl (.one I))])),(.agg (shps [(.sl (.cons I (.cons I Z22))),J,(.sl (.one I)),J]))])
def gcqo:Shps:=(shps [])
theorem gcqL:Ok [gcpE,gcjE]:=kc gcpK (kc gcjK k0)
def gcqk1:Cs:=(122,loopOf (shps [(.box (shps [(.sl Z18),(.sl (.cons I (.cons I (.cons I (.cons I (.cons .bool (.cons .bool (.cons I (.cons I Z22))))))))),(.sl (.cons I Z32)),(.sl (.cons I Z9)),(.sl (.cons I (.cons I (.cons I (.cons I (.cons I (.cons I Z22))))))),(.sl (.cons I (.cons I (.cons I (.cons I Z22))))),(.sl (.cons (.sl (.cons I (.cons I Z22))) (.cons I Z11))),(.sl (.one I))])),(.box (shps [(.sl (.cons I (.cons I Z22))),J,(.sl (.one I)),J])),(.sl (.one I)),J,J]) [2,3,36,37,38] [.ret (shps [J]) [4],.exit 0 (shps []) []] gcq_122F) :: []
theorem gcqc1:CutsOk tP gcqC gcqB gcqk1 :=
 CutsOk.loop tM rfl gcqL .nil _ _ _ _ _ (by kernel_rfl) (by kernel_rfl) fun x => by kernel_rfl
def gcqE:Entry:=⟨47,gcqa,J,gcqo,fun x => gcq x.1.1 x.1.2.1 x.1.2.2.1 x.1.2.2.2.1 x.1.2.2.2.2.1 x.1.2.2.2.2.2.1 x.1.2.2.2.2.2.2.1 x.1.2.2.2.2.2.2.2.1 x.2.1.1 x.2.1.2.1 x.2.1.2.2.1 x.2.1.2.2.2.1⟩
theorem gcqK:EntryOk tP gcqE :=
 entry_ok tM rfl gcqL func47 (by kernel_rfl) (by kernel_rfl) gcqc1 [] _ _ _ _ (fun x => by kernel_rfl) fun x => by kernel_rfl
def gcrC:Ctx:=⟨tP,90,0,[(1,[13,14,15]),(2,[16]),(3,[18]),(4,[19,20,21,22,23,24,25,26,27,28,29,30,31,32,33,34,35,36,37,38,39]),(6,[41,42]),(7,[43]),(8,[45]),(9,[46]),(11,[51,52]),(12,[53,54,55]),(13,[56]),(14,[58]),(15,[59]),(16,[60]),(18,[65,66]),(19,[67,68,69]),(20,[70]),(21,[72]),(22,[73]),(23,[74]),(25,[79,80]),(26,[81,82,83,84,85,86,87]),(28,[89])],[],[]⟩
def gcrB:=bd f14
def gcra:Shps:=(shps [(.agg (shps [(.sl Z18),(.sl (.cons I (.cons I (.cons I (.cons I (.cons .bool (.cons .bool (.cons I (.cons I Z22))))))))),(.sl (.cons I Z32)),(.sl (.cons I Z9)),(.sl (.cons I (.cons I (.cons I (.cons I (.cons I (.cons I Z22))))))),(.sl (.cons I (.cons I (.cons I (.cons I Z22))))),(.sl (.cons (.sl (.cons I (.cons I Z22))) (.cons I Z11))),(.sl (.one I))]))])
def gcro:Shps:=(shps [])
theorem gcrL:Ok [gcgE,gckE,gcmE,gcqE]:=kc gcgK (kc gckK (kc gcmK (kc gcqK k0)))
def gcrk1:Cs:=(250,loopOf (shps [(.box (shps [(.sl Z18),(.sl (.cons I (.cons I (.cons I (.cons I (.cons .bool (.cons .bool (.cons I (.cons I Z22))))))))),(.sl (.cons I Z32)),(.sl (.cons I Z9)),(.sl (.cons I (.cons I (.cons I (.cons I (.cons I (.cons I Z22))))))),(.sl (.cons I (.cons I (.cons I (.cons I Z22))))),(.sl (.cons (.sl (.cons I (.cons I Z22))) (.cons I Z11))),(.sl (.one I))])),(.sl (.cons I (.cons I (.cons I (.cons I Z22))))),J,J]) [1,47,48,49] [.ret (shps [J]) [2],.exit 0 (shps [(.box (shps [(.sl Z18),(.sl (.cons I (.cons I (.cons I (.cons I (.cons .bool (.cons .bool (.cons I (.cons I Z22))))))))),(.sl (.cons I Z32)),(.sl (.cons I Z9)),(.sl (.cons I (.cons I (.cons I (.cons I (.cons I (.cons I Z22))))))),(.sl (.cons I (.cons I (.cons I (.cons I Z22))))),(.sl (.cons (.sl (.cons I (.cons I Z22))) (.cons I Z11))),(.sl (.one I))]))]) [1]] gcr_250F) :: []
theorem gcrc1:CutsOk tP gcrC gcrB gcrk1 :=
 CutsOk.loop tM rfl gcrL .nil _ _ _ _ _ (by kernel_rfl) (by kernel_rfl) fun x => by kernel_rfl
def gcrk2:Cs:=(506,loopOf (shps [(.box (shps [(.sl Z18),(.sl (.cons I (.cons I (.cons I (.cons I (.cons .bool (.cons .bool (.cons I (.cons I Z22))))))))),(.sl (.cons I Z32)),(.sl (.cons I Z9)),(.sl (.cons I (.cons I (.cons I (.cons I (.cons I (.cons I Z22))))))),(.sl (.cons I (.cons I (.cons I (.cons I Z22))))),(.sl (.cons (.sl (.cons I (.cons I Z22))) (.cons I Z11))),(.sl (.one I))])),(.sl (.cons (.sl (.cons I (.cons I Z22))) (.cons I Z11))),J,J]) [1,61,62,63] [.ret (shps [J]) [2],.exit 2 (shps [(.box (shps [(.sl Z18),(.sl (.cons I (.cons I (.cons I (.cons I (.cons .bool (.cons .bool (.cons I (.cons I Z22))))))))),(.sl (.cons I Z32)),(.sl (.cons I Z9)),(.sl (.cons I (.cons I (.cons I (.cons I (.cons I (.cons I Z22))))))),(.sl (.cons I (.cons I (.cons I (.cons I Z22))))),(.sl (.cons (.sl (.cons I (.cons I Z22))) (.cons I Z11))),(.sl (.one I))]))]) [1]] gcr_506F) :: gcrk1
theorem gcrc2:CutsOk tP gcrC gcrB gcrk2 :=
 CutsOk.loop tM rfl gcrL gcrc1 _ _ _ _ _ (by kernel_rfl) (by kernel_rfl) fun x => by kernel_rfl
def gcrk3:Cs:=(1018,loopOf (shps [(.sl (.one I)),J,J]) [75,76,77] [.ret (shps [J]) [2],.exit 4 (shps []) []] gcr_1018F) :: gcrk2
theorem gcrc3:CutsOk tP gcrC gcrB gcrk3 :=
 CutsOk.loop tM rfl gcrL gcrc2 _ _ _ _ _ (by kernel_rfl) (by kernel_rfl) fun x => by kernel_rfl
def gcrE:Entry:=⟨14,gcra,J,gcro,fun x => gcr x.1.1 x.1.2.1 x.1.2.2.1 x.1.2.2.2.1 x.1.2.2.2.2.1 x.1.2.2.2.2.2.1 x.1.2.2.2.2.2.2.1 x.1.2.2.2.2.2.2.2.1⟩
theorem gcrK:EntryOk tP gcrE :=
 entry_ok tM rfl gcrL func14 (by kernel_rfl) (by kernel_rfl) gcrc3 [] _ _ _ _ (fun x => by kernel_rfl) fun x => by kernel_rfl
def gcsC:Ctx:=⟨tP,2,0,[(1,[1])],[],[]⟩
def gcsB:=bd f55
def gcsa:Shps:=(shps [])
def gcso:Shps:=(shps [])
def gcsE:Entry:=⟨55,gcsa,(.agg (shps [J,J])),gcso,fun x => gcs⟩
theorem gcsK:EntryOk tP gcsE :=
 entry_ok tM rfl k0 func55 (by kernel_rfl) (by kernel_rfl) (CutsOk.nil (C:=gcsC) (root:=gcsB)) [] _ _ _ _ (fun x => by kernel_rfl) fun x => by kernel_rfl
def gctC:Ctx:=⟨tP,13,0,[(1,[3,4,5,6,7,8,9,10,11,12])],[],[]⟩
def gctB:=bd f92
def gcta:Shps:=(shps [J])
def gcto:Shps:=(shps [])
def gctE:Entry:=⟨92,gcta,.bool,gcto,fun x => gct x.1⟩
theorem gctK:EntryOk tP gctE :=
 entry_ok tM rfl k0 func92 (by kernel_rfl) (by kernel_rfl) (CutsOk.nil (C:=gctC) (root:=gctB)) [] _ _ _ _ (fun x => by kernel_rfl) fun x => by kernel_rfl
def gcuC:Ctx:=⟨tP,83,0,[(1,[10]),(2,[11,12,13,14,15,16,17,18,19,20,21,22,23,24,25,26,27,28,29,30,31,32,33,34,35,36,37,38]),(3,[40]),(4,[41,42]),(5,[44,45]),(6,[46,47,48,49,50,51,52,53,54]),(7,[55,56,57,58,59,60,61,62,63,64,65]),(8,[66,67,68,69,70,71,72]),(9,[74,75,76,77,78,79,80,81]),(10,[82])],[],[]⟩
def gcuB:=bd f56
def gcua:Shps:=(shps [(.agg Z10),(.agg (shps [J,J,J,J])),J])
def gcuo:Shps:=(shps [])
theorem gcuL:Ok [gcsE,gciE,gctE]:=kc gcsK (kc gciK (kc gctK k0))
def gcuE:Entry:=⟨56,gcua,(.agg (shps [J,J])),gcuo,fun x => gcu x.1.1 x.1.2.1 x.1.2.2.1 x.1.2.2.2.1 x.1.2.2.2.2.1 x.1.2.2.2.2.2.1 x.1.2.2.2.2.2.2.1 x.1.2.2.2.2.2.2.2.1 x.2.1.1 x.2.1.2.1 x.2.1.2.2.1 x.2.1.2.2.2.1 x.2.2.1⟩
theorem gcuK:EntryOk tP gcuE :=
 entry_ok tM rfl gcuL func56 (by kernel_rfl) (by kernel_rfl) (CutsOk.nil (C:=gcuC) (root:=gcuB)) [] _ _ _ _ (fun x => by kernel_rfl) fun x => by kernel_rfl
def gcvC:Ctx:=⟨tP,42,0,[(1,[9,10,11,12,13,14,15,16,17,18,19,20,21,22,23,24,25,26,27,28]),(2,[30]),(3,[31,32,33,34,35,36,37,38,39,40,41])],[],[]⟩
def gcvB:=bd f20
def gcva:Shps:=(shps [(.agg (shps [(.sl Z18),(.sl (.cons I (.cons I (.cons I (.cons I (.cons .bool (.cons .bool (.cons I (.cons I Z22))))))))),(.sl (.cons I Z32)),(.sl (.cons I Z9)),(.sl (.cons I (.cons I (.cons I (.cons I (.cons I (.cons I Z22))))))),(.sl (.cons I (.cons I (.cons I (.cons I Z22))))),(.sl (.cons (.sl (.cons I (.cons I Z22))) (.cons I Z11))),(.sl (.one I))])),(.sl (.cons I (.cons I Z22))),J,J])
def gcvo:Shps:=(shps [])
theorem gcvL:Ok [gcjE,gcsE,gcuE]:=kc gcjK (kc gcsK (kc gcuK k0))
def gcvE:Entry:=⟨20,gcva,(.agg (shps [J,J])),gcvo,fun x => gcv x.1.1 x.1.2.1 x.1.2.2.1 x.1.2.2.2.1 x.1.2.2.2.2.1 x.1.2.2.2.2.2.1 x.1.2.2.2.2.2.2.1 x.1.2.2.2.2.2.2.2.1 x.2.1 x.2.2.1 x.2.2.2.1⟩
theorem gcvK:EntryOk tP gcvE :=
 entry_ok tM rfl gcvL func20 (by kernel_rfl) (by kernel_rfl) (CutsOk.nil (C:=gcvC) (root:=gcvB)) [] _ _ _ _ (fun x => by kernel_rfl) fun x => by kernel_rfl
def gcwC:Ctx:=⟨tP,21,0,[(1,[6,7,8,9,10]),(3,[12,13,14,15]),(5,[17,18,19,20])],[],[]⟩
def gcwB:=bd f60
def gcwa:Shps:=(shps [(.agg (shps [J,J])),J])
def gcwo:Shps:=(shps [])
def gcwE:Entry:=⟨60,gcwa,J,gcwo,fun x => gcw x.1.1 x.1.2.1 x.2.1⟩
theorem gcwK:EntryOk tP gcwE :=
 entry_ok tM rfl k0 func60 (by kernel_rfl) (by kernel_rfl) (CutsOk.nil (C:=gcwC) (root:=gcwB)) [] _ _ _ _ (fun x => by kernel_rfl) fun x => by kernel_rfl
def gcxC:Ctx:=⟨tP,97,0,[(1,[11,12]),(2,[13]),(3,[15,16]),(4,[17,18,19,20,21,22,23,24,25,26,27]),(5,[29]),(6,[30,31,32,33,34,35,36,37,38,39,40,41,42,43,44,45,46,47,48,49,50,51,52,53,54,55,56,57,58]),(7,[60]),(8,[61,62]),(13,[78,79,80,81,82]),(14,[83,84]),(15,[86,87,88]),(16,[90,91,92,93,94]),(17,[95]),(9,[63,64]),(10,[66,67]),(11,[68,69,70,71,72,73]),(12,[75,76]),(18,[96])],[],[]⟩
def gcxB:=bd f58
def gcxa:Shps:=(shps [(.agg Z25),(.agg Z20),(.agg (shps [J,J])),J])
def gcxo:Shps:=(shps [])
theorem gcxL:Ok [gclE,gcwE]:=kc gclK (kc gcwK k0)
def gcxk1:Cs:=(32383,cutOf (shps [J,(.box Z25),(.box Z20),(.box Z20)]) [3,4,5,8] [.norm (shps [(.box Z20),(.box Z20)]) [5,8]] fun x => gcx_32383 x.1 x.2.1.1 x.2.1.2.1 x.2.1.2.2.1 x.2.2.1.1 x.2.2.1.2.1 x.2.2.1.2.2.1 x.2.2.2.1.1 x.2.2.2.1.2.1 x.2.2.2.1.2.2.1) :: []
theorem gcxc1:CutsOk tP gcxC gcxB gcxk1 :=
 CutsOk.cut tM rfl gcxL .nil _ _ _ _ _ (by kernel_rfl) fun x => by kernel_rfl
def gcxE:Entry:=⟨58,gcxa,(.tup (shps [(.agg Z20),J])),gcxo,fun x => gcx x.1.1 x.1.2.1 x.1.2.2.1 x.2.1.1 x.2.1.2.1 x.2.1.2.2.1 x.2.2.1.1 x.2.2.1.2.1 x.2.2.2.1⟩
theorem gcxK:EntryOk tP gcxE :=
 entry_ok tM rfl gcxL func58 (by kernel_rfl) (by kernel_rfl) gcxc1 [] _ _ _ _ (fun x => by kernel_rfl) fun x => by kernel_rfl
def gcyC:Ctx:=⟨tP,18,0,[(1,[8,9,10]),(3,[12,13,14,15,16,17])],[],[]⟩
def gcyB:=bd f59
def gcya:Shps:=(shps [(.agg Z17),(.agg Z20),(.agg (shps [J,J]))])
def gcyo:Shps:=(shps [])
theorem gcyL:Ok [gcwE]:=kc gcwK k0
def gcyE:Entry:=⟨59,gcya,J,gcyo,fun x => gcy x.1.1 x.1.2.1 x.1.2.2.1 x.1.2.2.2.1 x.1.2.2.2.2.1 x.1.2.2.2.2.2.1 x.2.1.1 x.2.1.2.1 x.2.1.2.2.1 x.2.2.1.1 x.2.2.1.2.1⟩
theorem gcyK:EntryOk tP gcyE :=
 entry_ok tM rfl gcyL func59 (by kernel_rfl) (by kernel_rfl) (CutsOk.nil (C:=gcyC) (root:=gcyB)) [] _ _ _ _ (fun x => by kernel_rfl) fun x => by kernel_rfl
def gczC:Ctx:=⟨tP,27,0,[(1,[4,5,6,7,8]),(3,[10,11,12,13,14,15,16,17]),(5,[19,20,21,22,23,24,25,26])],[],[]⟩
def gczB:=bd f61
def gcza:Shps:=(shps [(.agg (shps [J,J]))])
def gczo:Shps:=(shps [])
def gczE:Entry:=⟨61,gcza,J,gczo,fun x => gcz x.1.1 x.1.2.1⟩
theorem gczK:EntryOk tP gczE :=
 entry_ok tM rfl k0 func61 (by kernel_rfl) (by kernel_rfl) (CutsOk.nil (C:=gczC) (root:=gczB)) [] _ _ _ _ (fun x => by kernel_rfl) fun x => by kernel_rfl
def gdaC:Ctx:=⟨tP,39,0,[(1,[6,7,8,9,10]),(3,[12,13,14,15,16,17,18,19,20,21,22,23,24,25,26]),(5,[28,29,30,31,32,33,34,35,36,37,38])],[],[]⟩
def gdaB:=bd f93
def gdaa:Shps:=(shps [(.agg (shps [J,J])),J])
def gdao:Shps:=(shps [])
def gdaE:Entry:=⟨93,gdaa,J,gdao,fun x => gda x.1.1 x.1.2.1 x.2.1⟩
theorem gdaK:EntryOk tP gdaE :=
 entry_ok tM rfl k0 func93 (by kernel_rfl) (by kernel_rfl) (CutsOk.nil (C:=gdaC) (root:=gdaB)) [] _ _ _ _ (fun x => by kernel_rfl) fun x => by kernel_rfl
def gdbC:Ctx:=⟨tP,41,0,[(1,[8,9,10]),(4,[15,16,17]),(5,[18,19,20,21,22,23,24,25,26]),(6,[28,29,30,31,32,33,34,35,36,37,38]),(7,[39]),(8,[40])],[],[]⟩
def gdbB:=bd f62
def gdba:Shps:=(shps [(.sl Z22),(.sl Z22)])
def gdbo:Shps:=(shps [])
theorem gdbL:Ok [gdaE]:=kc gdaK k0
def gdbk1:Cs:=(58,loopOf (shps [(.sl Z22),(.ow (.one I)),(.sl Z22),J,J]) [0,5,11,12,13] [.exit 0 (shps [(.ow (.one I))]) [5]] gdb_58F) :: []
theorem gdbc1:CutsOk tP gdbC gdbB gdbk1 :=
 CutsOk.loop tM rfl gdbL .nil _ _ _ _ _ (by kernel_rfl) (by kernel_rfl) fun x => by kernel_rfl
def gdbE:Entry:=⟨62,gdba,(.ow (.one I)),gdbo,fun x => gdb x.1 x.2.1⟩
theorem gdbK:EntryOk tP gdbE :=
 entry_ok tM rfl gdbL func62 (by kernel_rfl) (by kernel_rfl) gdbc1 [] _ _ _ _ (fun x => by kernel_rfl) fun x => by kernel_rfl
def gdcC:Ctx:=⟨tP,152,0,[(1,[21,22]),(2,[23]),(3,[25]),(4,[26,27,28,29,30,31,32,33,34,35,36,37,38,39,40,41,42,43,44,45,46,47,48]),(6,[50,51,52,53,54]),(8,[56,57,58,59,60]),(9,[61]),(11,[66,67,68]),(12,[69,70,71,72,73,74]),(13,[75]),(14,[78]),(15,[79,80,81,82,83,84,85,86,87,88,89,90]),(16,[91]),(17,[93]),(18,[94,95,96,97,98,99,100,101,102,103,104]),(19,[106]),(20,[107,108,109,110,111,112,113,114]),(21,[116]),(22,[117,118,119,120,121]),(23,[123]),(24,[124,125,126]),(25,[127,128]),(26,[130,131,132]),(27,[134]),(28,[135,136,137,138,139,140,141,142,143,144,145,146,147,148]),(29,[149]),(30,[150,151])],[],[]⟩
def gdcB:=bd f22
def gdca:Shps:=(shps [(.agg (shps [(.sl Z18),(.sl (.cons I (.cons I (.cons I (.cons I (.cons .bool (.cons .bool (.cons I (.cons I Z22))))))))),(.sl (.cons I Z32)),(.sl (.cons I Z9)),(.sl (.cons I (.cons I (.cons I (.cons I (.cons I (.cons I Z22))))))),(.sl (.cons I (.cons I (.cons I (.cons I Z22))))),(.sl (.cons (.sl (.cons I (.cons I Z22))) (.cons I Z11))),(.sl (.one I))])),(.sl (.cons I (.cons I Z22))),(.sl Z29),(.sl Z22),J])
def gdco:Shps:=(shps [])
theorem gdcL:Ok [gcrE,gcvE,gcxE,gcyE,gcwE,gczE,gcsE,gdbE]:=kc gcrK (kc gcvK (kc gcxK (kc gcyK (kc gcwK (kc gczK (kc gcsK (kc gdbK k0)))))))
def gdck1:Cs:=(506,loopOf (shps [(.sl (.cons I (.cons I Z22))),(.sl Z29),(.sl Z22),J,(.box (shps [(.sl Z18),(.sl (.cons I (.cons I (.cons I (.cons I (.cons .bool (.cons .bool (.cons I (.cons I Z22))))))))),(.sl (.cons I Z32)),(.sl (.cons I Z9)),(.sl (.cons I (.cons I (.cons I (.cons I (.cons I (.cons I Z22))))))),(.sl (.cons I (.cons I (.cons I (.cons I Z22))))),(.sl (.cons (.sl (.cons I (.cons I Z22))) (.cons I Z11))),(.sl (.one I))])),(.ow (.one I)),(.ow Z29),(.sl (.cons I (.cons I (.cons I (.cons I Z22))))),J,J]) [1,2,3,4,5,14,15,62,63,64] [.ret Z31 [10,11,12],.exit 0 (shps [(.ow (.one I)),(.ow Z29)]) [14,15]] gdc_506F) :: []
theorem gdcc1:CutsOk tP gdcC gdcB gdck1 :=
 CutsOk.loop tM rfl gdcL .nil _ _ _ _ _ (by kernel_rfl) (by kernel_rfl) fun x => by kernel_rfl
def gdcE:Entry:=⟨22,gdca,(.tup Z31),gdco,fun x => gdc x.1.1 x.1.2.1 x.1.2.2.1 x.1.2.2.2.1 x.1.2.2.2.2.1 x.1.2.2.2.2.2.1 x.1.2.2.2.2.2.2.1 x.1.2.2.2.2.2.2.2.1 x.2.1 x.2.2.1 x.2.2.2.1 x.2.2.2.2.1⟩
theorem gdcK:EntryOk tP gdcE :=
 entry_ok tM rfl gdcL func22 (by kernel_rfl) (by kernel_rfl) gdcc1 [] _ _ _ _ (fun x => by kernel_rfl) fun x => by kernel_rfl
def gddC:Ctx:=⟨tP,10,0,[(1,[3,4,5,6,7,8,9])],[],[]⟩
def gddB:=bd f11
def gdda:Shps:=(shps [.nsl])
def gddo:Shps:=(shps [])
def gddE:Entry:=⟨11,gdda,(.box Z7),gddo,fun x => gdd⟩
theorem gddK:EntryOk tP gddE :=
 entry_ok tM rfl k0 func11 (by kernel_rfl) (by kernel_rfl) (CutsOk.nil (C:=gddC) (root:=gddB)) [] _ _ _ _ (fun x => by kernel_rfl) fun x => by kernel_rfl
def gdeC:Ctx:=⟨tP,77,1,[(1,[6,7,8,9,10,11,12,13,14,15,16,17,18]),(3,[20,21,22,23,24,25,26]),(4,[27,28,29,30,31,32,33,34,35,36,37,38]),(5,[39,40,41,42,43,44,45,46,47,48,49,50,51]),(6,[53,54,55,56,57,58,59,60,61,62,63,64,65,66]),(7,[67,68,69,70,71,72,73]),(8,[74,75,76])],[],[]⟩
def gdeB:=bd f37
def gdea:Shps:=(shps [(.box Z7),J])
def gdeo:Shps:=(shps [(.box Z7)])
def gdek1:Cs:=(63,cutOf (shps [(.box Z7),J,J]) [0,1,5] [.ret (shps [(.box Z7),J]) [0,4]] fun x => gde_63 x.1.1 x.1.2.1 x.2.1 x.2.2.1) :: []
theorem gdec1:CutsOk tP gdeC gdeB gdek1 :=
 CutsOk.cut tM rfl k0 .nil _ _ _ _ _ (by kernel_rfl) fun x => by kernel_rfl
def gdeE:Entry:=⟨37,gdea,J,gdeo,fun x => gde x.1.1 x.1.2.1 x.2.1⟩
theorem gdeK:EntryOk tP gdeE :=
 entry_ok tM rfl k0 func37 (by kernel_rfl) (by kernel_rfl) gdec1 [] _ _ _ _ (fun x => by kernel_rfl) fun x => by kernel_rfl
def gdfC:Ctx:=⟨tP,15,1,[(1,[7,8,9,10,11,12,13,14])],[],[]⟩
def gdfB:=bd f28
def gdfa:Shps:=(shps [(.box Z7),J,J])
def gdfo:Shps:=(shps [(.box Z7)])
theorem gdfL:Ok [gdeE]:=kc gdeK k0
def gdfE:Entry:=⟨28,gdfa,J,gdfo,fun x => gdf x.1.1 x.1.2.1 x.2.1 x.2.2.1⟩
theorem gdfK:EntryOk tP gdfE :=
 entry_ok tM rfl gdfL func28 (by kernel_rfl) (by kernel_rfl) (CutsOk.nil (C:=gdfC) (root:=gdfB)) [] _ _ _ _ (fun x => by kernel_rfl) fun x => by kernel_rfl
def gdgC:Ctx:=⟨tP,68,1,[(1,[8,9,10,11,12,13,14,15,16,17]),(2,[18,19,20,21,22,23,24,25,26,27,28,29,30]),(3,[31,32,33,34,35,36,37,38]),(4,[39,40,41,42]),(5,[43,44]),(6,[45]),(8,[49,50,51,52,53,54,55,56,57,58]),(9,[59,60,61,62,63,64,65]),(7,[47,48]),(10,[66,67])],[],[]⟩
def gdgB:=bd f39
def gdga:Shps:=(shps [(.box Z7)])
def gdgo:Shps:=(shps [(.box Z7)])
theorem gdgL:Ok [gdfE,gdeE]:=kc gdfK (kc gdeK k0)
def gdgk1:Cs:=(506,loopOf (shps [(.box Z7),(.box (shps [(.ow Z18),(.ow (.cons I (.cons I (.cons I (.cons I (.cons .bool (.cons .bool (.cons I (.cons I Z22))))))))),(.ow (.cons I Z32)),(.ow (.cons I Z9)),(.ow (.cons I (.cons I (.cons I (.cons I (.cons I (.cons I Z22))))))),(.ow (.cons I (.cons I (.cons I (.cons I Z22))))),(.ow (.cons (.sl (.cons I (.cons I Z22))) (.cons I Z11))),(.ow (.one I))])),(.box (shps [(.ow (.cons I (.cons I (.cons I Z16)))),(.ow (.one I)),J])),(.box (shps [(.ow Z18),(.ow (.cons I (.cons I (.cons I (.cons I (.cons .bool (.cons .bool (.cons I (.cons I Z22))))))))),(.ow (.cons I Z32)),(.ow (.cons I Z9)),(.ow (.cons I (.cons I (.cons I (.cons I (.cons I (.cons I Z22))))))),(.ow (.cons I (.cons I (.cons I (.cons I Z22))))),(.ow (.cons (.sl (.cons I (.cons I Z22))) (.cons I Z11))),(.ow (.one I))])),(.box (shps [(.ow (.cons I (.cons I (.cons I Z16)))),(.ow (.one I)),J])),J]) [0,2,3,5,6,7] [.exit 0 (shps [(.box Z7),(.box (shps [(.ow Z18),(.ow (.cons I (.cons I (.cons I (.cons I (.cons .bool (.cons .bool (.cons I (.cons I Z22))))))))),(.ow (.cons I Z32)),(.ow (.cons I Z9)),(.ow (.cons I (.cons I (.cons I (.cons I (.cons I (.cons I Z22))))))),(.ow (.cons I (.cons I (.cons I (.cons I Z22))))),(.ow (.cons (.sl (.cons I (.cons I Z22))) (.cons I Z11))),(.ow (.one I))])),(.box (shps [(.ow (.cons I (.cons I (.cons I Z16)))),(.ow (.one I)),J])),(.box (shps [(.ow Z18),(.ow (.cons I (.cons I (.cons I (.cons I (.cons .bool (.cons .bool (.cons I (.cons I Z22))))))))),(.ow (.cons I Z32)),(.ow (.cons I Z9)),(.ow (.cons I (.cons I (.cons I (.cons I (.cons I (.cons I Z22))))))),(.ow (.cons I (.cons I (.cons I (.cons I Z22))))),(.ow (.cons (.sl (.cons I (.cons I Z22))) (.cons I Z11))),(.ow (.one I))])),(.box (shps [(.ow (.cons I (.cons I (.cons I Z16)))),(.ow (.one I)),J]))]) [0,2,3,5,6]] gdg_506F) :: []
theorem gdgc1:CutsOk tP gdgC gdgB gdgk1 :=
 CutsOk.loop tM rfl gdgL .nil _ _ _ _ _ (by kernel_rfl) (by kernel_rfl) fun x => by kernel_rfl
def gdgE:Entry:=⟨39,gdga,(.tup (shps [(.agg (shps [(.ow Z18),(.ow (.cons I (.cons I (.cons I (.cons I (.cons .bool (.cons .bool (.cons I (.cons I Z22))))))))),(.ow (.cons I Z32)),(.ow (.cons I Z9)),(.ow (.cons I (.cons I (.cons I (.cons I (.cons I (.cons I Z22))))))),(.ow (.cons I (.cons I (.cons I (.cons I Z22))))),(.ow (.cons (.sl (.cons I (.cons I Z22))) (.cons I Z11))),(.ow (.one I))])),(.agg (shps [(.ow (.cons I (.cons I (.cons I Z16)))),(.ow (.one I)),J]))])),gdgo,fun x => gdg x.1.1 x.1.2.1⟩
theorem gdgK:EntryOk tP gdgE :=
 entry_ok tM rfl gdgL func39 (by kernel_rfl) (by kernel_rfl) gdgc1 [] _ _ _ _ (fun x => by kernel_rfl) fun x => by kernel_rfl
def gdhC:Ctx:=⟨tP,102,0,[(1,[8,9]),(3,[11,12,13]),(6,[18,19,20]),(7,[21]),(9,[38]),(10,[39,40,41,42,43,44,45,46,47,48,49,50,51,52,53,54,55,56,57,58]),(11,[60,61,62,63,64,65,66,67]),(12,[69]),(13,[70,71,72,73,74,75,76,77,78]),(14,[80]),(15,[81,82,83,84,85,86,87,88,89,90,91,92,93,94]),(8,[23,24,25,26,27,28,29,30,31,32,33,34,35,36]),(16,[95]),(17,[96,97,98,99,100,101])],[],[]⟩
def gdhB:=bd f64
def gdha:Shps:=(shps [(.sl (.cons I (.cons I Z22))),(.sl (.one I))])
def gdho:Shps:=(shps [])
theorem gdhL:Ok [gcoE]:=kc gcoK k0
def gdhk1:Cs:=(122,loopOf (shps [(.sl (.one I)),(.ow (.one I)),(.sl (.cons I (.cons I Z22))),J,J]) [1,5,14,15,16] [.exit 0 (shps [(.ow (.one I))]) [5]] gdh_122F) :: []
theorem gdhc1:CutsOk tP gdhC gdhB gdhk1 :=
 CutsOk.loop tM rfl gdhL .nil _ _ _ _ _ (by kernel_rfl) (by kernel_rfl) fun x => by kernel_rfl
def gdhE:Entry:=⟨64,gdha,J,gdho,fun x => gdh x.1 x.2.1⟩
theorem gdhK:EntryOk tP gdhE :=
 entry_ok tM rfl gdhL func64 (by kernel_rfl) (by kernel_rfl) gdhc1 [] _ _ _ _ (fun x => by kernel_rfl) fun x => by kernel_rfl
def gdiC:Ctx:=⟨tP,93,0,[(1,[18,19]),(2,[20]),(3,[22]),(4,[23,24,25,26,27,28,29,30,31,32,33,34,35]),(6,[37,38,39,40,41]),(8,[43,44]),(10,[45]),(12,[50,51,52]),(13,[53,54,55]),(14,[56,57,58,59]),(15,[60]),(16,[62,63,64,65]),(17,[67,68,69,70]),(18,[71,72,73]),(19,[74,75,76,77]),(20,[79,80,81,82,83,84,85]),(21,[86,87,88,89]),(22,[90]),(23,[91,92])],[],[]⟩
def gdiB:=bd f29
def gdia:Shps:=(shps [(.agg (shps [(.sl Z18),(.sl (.cons I (.cons I (.cons I (.cons I (.cons .bool (.cons .bool (.cons I (.cons I Z22))))))))),(.sl (.cons I Z32)),(.sl (.cons I Z9)),(.sl (.cons I (.cons I (.cons I (.cons I (.cons I (.cons I Z22))))))),(.sl (.cons I (.cons I (.cons I (.cons I Z22))))),(.sl (.cons (.sl (.cons I (.cons I Z22))) (.cons I Z11))),(.sl (.one I))])),(.sl (.one I)),(.sl Z29),J])
def gdio:Shps:=(shps [])
theorem gdiL:Ok [gcrE,gdhE]:=kc gcrK (kc gdhK k0)
def gdik1:Cs:=(1018,loopOf (shps [(.sl (.one I)),J,(.ow Z29),(.ow (.one I)),(.sl (.cons (.sl (.cons I (.cons I Z22))) (.cons I Z11))),J,J]) [1,3,12,13,46,47,48] [.exit 0 (shps [(.ow Z29),(.ow (.one I))]) [12,13]] gdi_1018F) :: []
theorem gdic1:CutsOk tP gdiC gdiB gdik1 :=
 CutsOk.loop tM rfl gdiL .nil _ _ _ _ _ (by kernel_rfl) (by kernel_rfl) fun x => by kernel_rfl
def gdiE:Entry:=⟨29,gdia,(.tup (shps [(.ow Z29),(.ow (.one I)),J])),gdio,fun x => gdi x.1.1 x.1.2.1 x.1.2.2.1 x.1.2.2.2.1 x.1.2.2.2.2.1 x.1.2.2.2.2.2.1 x.1.2.2.2.2.2.2.1 x.1.2.2.2.2.2.2.2.1 x.2.1 x.2.2.1 x.2.2.2.1⟩
theorem gdiK:EntryOk tP gdiE :=
 entry_ok tM rfl gdiL func29 (by kernel_rfl) (by kernel_rfl) gdic1 [] _ _ _ _ (fun x => by kernel_rfl) fun x => by kernel_rfl
def gdjC:Ctx:=⟨tP,26,0,[(1,[6,7,8,9]),(4,[11,12,13]),(6,[17,18,19,20,21,22,23,24]),(5,[15,16])],[],[]⟩
def gdjB:=bd f24
def gdja:Shps:=Z5
def gdjo:Shps:=(shps [])
def gdjk1:Cs:=(58,loopOf (shps [(.sl (.one I)),(.sl (.one I)),J]) [0,1,5] [.ret Z26 [4],.exit 0 (shps []) []] gdj_58F) :: []
theorem gdjc1:CutsOk tP gdjC gdjB gdjk1 :=
 CutsOk.loop tM rfl k0 .nil _ _ _ _ _ (by kernel_rfl) (by kernel_rfl) fun x => by kernel_rfl
def gdjE:Entry:=⟨24,gdja,.bool,gdjo,fun x => gdj x.1 x.2.1⟩
theorem gdjK:EntryOk tP gdjE :=
 entry_ok tM rfl k0 func24 (by kernel_rfl) (by kernel_rfl) gdjc1 [] _ _ _ _ (fun x => by kernel_rfl) fun x => by kernel_rfl
def gdkC:Ctx:=⟨tP,139,0,[(1,[2,17,18,19,20,21]),(2,[22,23]),(3,[24,25]),(4,[26,27,28,29,30,31,32,33,34,35]),(5,[9,36,37,38,39,40,41,42,43,44,45,46]),(6,[47,48,49,50,51,52,53,54,55]),(7,[56,57,58,59,60,61,62,63,64]),(8,[65,66,67,68,69,70,71,72,73,74,75,76,77,78,79,80,81,82,83,84,85,86,87,88,89,90,91,92,93,94,95,96,97,98,99,100,101,102,103,104,105,106,107,108,109,110,111,112,113,114,115,116,117,118,119,120,121,122,123,124,125,126,127,128,129,130,131,132,133,134,135,136,137,138])],[],[]⟩
def gdkB:=bd f10
def gdka:Shps:=(shps [])
def gdko:Shps:=(shps [])
theorem gdkL:Ok [gddE,gdgE,gdcE,gdiE,gcrE,gdjE]:=kc gddK (kc gdgK (kc gdcK (kc gdiK (kc gcrK (kc gdjK k0)))))
def gdkE:Entry:=⟨10,gdka,.bool,gdko,fun x => gdk⟩
theorem gdkK:EntryOk tP gdkE :=
 entry_ok tM rfl gdkL func10 (by kernel_rfl) (by kernel_rfl) (CutsOk.nil (C:=gdkC) (root:=gdkB)) [] _ _ _ _ (fun x => by kernel_rfl) fun x => by kernel_rfl
def gdlC:Ctx:=⟨tP,244,0,[(1,[20,21]),(2,[22,23,24,25,26,27]),(3,[28,29,30,31,32]),(5,[34,35,36,37,38,39,40]),(6,[41]),(8,[43,44,45,46]),(10,[47]),(12,[52,53,54]),(13,[55,56,57,58,59]),(14,[60,61]),(15,[63,64,65,66,67,68,69,70,71]),(16,[72,73]),(17,[75,76,77,78,79]),(18,[80,81,82,83,84,85,86,87,88,89,90]),(19,[91,92,93]),(20,[95,96,97,98,99,100,101,102,103,104,105,106,107,108,109,110]),(21,[111,112,113,114]),(22,[115]),(23,[15,116,117,118,119,120,121,122,123,124,125,126,127,128,129]),(24,[130,131,132,133,134,135,136,137,138]),(26,[140]),(28,[145,146,147]),(30,[148]),(31,[151]),(32,[152,153,154,155,156,157,158,159]),(33,[161]),(34,[162,163,164,165,166,167]),(35,[169]),(36,[170,171,172,173,174,175,176,177,178,179,180,181,182,183,184,185,186]),(37,[188]),(38,[189,190,191,192,193,194,195,196,197,198,199,200,201,202,203,204,205,206,207,208,209,210,211,212,213,214,215,216,217,218,219,220,221]),(40,[223,224,225,226,227,228,229,230,231,232,233,234,235,236,237,238,239,240]),(42,[242]),(43,[243])],[],[]⟩
def gdlB:=bd f8
def gdla:Shps:=Z8
def gdlo:Shps:=(shps [])
theorem gdlL:Ok [gaaE,gawE,gbgE,gbzE,gabE,garE,gcbE,gdcE,gdkE]:=kc gaaK (kc gawK (kc gbgK (kc gbzK (kc gabK (kc garK (kc gcbK (kc gdcK (kc gdkK k0))))))))
def gdlk1:Cs:=(8377151,cutOf (shps [(.box Z6),(.box (shps [(.ow Z18),(.sl (.cons I (.cons I (.cons I (.cons I (.cons .bool (.cons .bool (.cons I (.cons I Z22))))))))),(.sl (.cons I Z32)),(.sl (.cons I Z9)),(.ow (.cons I (.cons I (.cons I (.cons I (.cons I (.cons I Z22))))))),(.ow (.cons I (.cons I (.cons I (.cons I Z22))))),(.ow (.cons (.sl (.cons I (.cons I Z22))) (.cons I Z11))),(.ow (.one I))])),(.box Z3),(.ow Z22),(.ow (.one I)),(.ow (.cons I (.cons I Z22))),(.box (shps [J,J,J,J])),(.rsl 4 (some 4)),J,J]) [3,4,6,7,9,10,13,48,49,50] [.norm (shps [(.box Z6),(.box (shps [(.ow Z18),(.sl (.cons I (.cons I (.cons I (.cons I (.cons .bool (.cons .bool (.cons I (.cons I Z22))))))))),(.sl (.cons I Z32)),(.sl (.cons I Z9)),(.ow (.cons I (.cons I (.cons I (.cons I (.cons I (.cons I Z22))))))),(.ow (.cons I (.cons I (.cons I (.cons I Z22))))),(.ow (.cons (.sl (.cons I (.cons I Z22))) (.cons I Z11))),(.ow (.one I))])),(.box Z3),(.ow Z22),(.ow (.one I)),(.ow (.cons I (.cons I Z22))),(.rsl 4 (some 4)),J,J]) [3,4,6,7,9,10,48,49,50]] fun x => gdl_8377151 x.1.1 x.1.2.1 x.2.1.1 x.2.1.2.1 x.2.1.2.2.1 x.2.1.2.2.2.1 x.2.1.2.2.2.2.1 x.2.1.2.2.2.2.2.1 x.2.1.2.2.2.2.2.2.1 x.2.1.2.2.2.2.2.2.2.1 x.2.2.1.1 x.2.2.1.2.1 x.2.2.2.1 x.2.2.2.2.1 x.2.2.2.2.2.1 x.2.2.2.2.2.2.1.1 x.2.2.2.2.2.2.1.2.1 x.2.2.2.2.2.2.1.2.2.1 x.2.2.2.2.2.2.1.2.2.2.1 x.2.2.2.2.2.2.2.2.1 x.2.2.2.2.2.2.2.2.2.1) :: []
theorem gdlc1:CutsOk tP gdlC gdlB gdlk1 :=
 CutsOk.cut tM rfl gdlL .nil _ _ _ _ _ (by kernel_rfl) fun x => by kernel_rfl
def gdlk2:Cs:=(2094287,cutOf (shps [(.box Z6),(.box (shps [(.ow Z18),(.sl (.cons I (.cons I (.cons I (.cons I (.cons .bool (.cons .bool (.cons I (.cons I Z22))))))))),(.sl (.cons I Z32)),(.sl (.cons I Z9)),(.ow (.cons I (.cons I (.cons I (.cons I (.cons I (.cons I Z22))))))),(.ow (.cons I (.cons I (.cons I (.cons I Z22))))),(.ow (.cons (.sl (.cons I (.cons I Z22))) (.cons I Z11))),(.ow (.one I))])),(.box Z3),(.ow Z22),(.ow (.one I)),(.ow (.cons I (.cons I Z22))),J,(.box Z10),(.rsl 4 (some 4)),J,J]) [3,4,6,7,9,10,11,12,48,49,50] [.norm (shps [(.box Z6),(.box (shps [(.ow Z18),(.sl (.cons I (.cons I (.cons I (.cons I (.cons .bool (.cons .bool (.cons I (.cons I Z22))))))))),(.sl (.cons I Z32)),(.sl (.cons I Z9)),(.ow (.cons I (.cons I (.cons I (.cons I (.cons I (.cons I Z22))))))),(.ow (.cons I (.cons I (.cons I (.cons I Z22))))),(.ow (.cons (.sl (.cons I (.cons I Z22))) (.cons I Z11))),(.ow (.one I))])),(.box Z3),(.ow Z22),(.ow (.one I)),(.ow (.cons I (.cons I Z22))),(.rsl 4 (some 4)),J,J]) [3,4,6,7,9,10,48,49,50]] fun x => gdl_2094287 x.1.1 x.1.2.1 x.2.1.1 x.2.1.2.1 x.2.1.2.2.1 x.2.1.2.2.2.1 x.2.1.2.2.2.2.1 x.2.1.2.2.2.2.2.1 x.2.1.2.2.2.2.2.2.1 x.2.1.2.2.2.2.2.2.2.1 x.2.2.1.1 x.2.2.1.2.1 x.2.2.2.1 x.2.2.2.2.1 x.2.2.2.2.2.1 x.2.2.2.2.2.2.1 x.2.2.2.2.2.2.2.1.1 x.2.2.2.2.2.2.2.1.2.1 x.2.2.2.2.2.2.2.1.2.2.1 x.2.2.2.2.2.2.2.1.2.2.2.1 x.2.2.2.2.2.2.2.1.2.2.2.2.1 x.2.2.2.2.2.2.2.1.2.2.2.2.2.1 x.2.2.2.2.2.2.2.1.2.2.2.2.2.2.1 x.2.2.2.2.2.2.2.1.2.2.2.2.2.2.2.1 x.2.2.2.2.2.2.2.2.2.1 x.2.2.2.2.2.2.2.2.2.2.1) :: gdlk1
theorem gdlc2:CutsOk tP gdlC gdlB gdlk2 :=
 CutsOk.cut tM rfl gdlL gdlc1 _ _ _ _ _ (by kernel_rfl) fun x => by kernel_rfl
def gdlk3:Cs:=(1047143,cutOf (shps [(.box Z6),(.box (shps [(.ow Z18),(.sl (.cons I (.cons I (.cons I (.cons I (.cons .bool (.cons .bool (.cons I (.cons I Z22))))))))),(.sl (.cons I Z32)),(.sl (.cons I Z9)),(.ow (.cons I (.cons I (.cons I (.cons I (.cons I (.cons I Z22))))))),(.ow (.cons I (.cons I (.cons I (.cons I Z22))))),(.ow (.cons (.sl (.cons I (.cons I Z22))) (.cons I Z11))),(.ow (.one I))])),(.box Z3),(.ow Z22),(.ow (.one I)),(.ow (.cons I (.cons I Z22))),J,(.box Z10),(.rsl 4 (some 4)),J,J]) [3,4,6,7,9,10,11,12,48,49,50] [.norm (shps [(.box Z6),(.box (shps [(.ow Z18),(.sl (.cons I (.cons I (.cons I (.cons I (.cons .bool (.cons .bool (.cons I (.cons I Z22))))))))),(.sl (.cons I Z32)),(.sl (.cons I Z9)),(.ow (.cons I (.cons I (.cons I (.cons I (.cons I (.cons I Z22))))))),(.ow (.cons I (.cons I (.cons I (.cons I Z22))))),(.ow (.cons (.sl (.cons I (.cons I Z22))) (.cons I Z11))),(.ow (.one I))])),(.box Z3),(.ow Z22),(.ow (.one I)),(.ow (.cons I (.cons I Z22))),(.rsl 4 (some 4)),J,J]) [3,4,6,7,9,10,48,49,50]] fun x => gdl_1047143 x.1.1 x.1.2.1 x.2.1.1 x.2.1.2.1 x.2.1.2.2.1 x.2.1.2.2.2.1 x.2.1.2.2.2.2.1 x.2.1.2.2.2.2.2.1 x.2.1.2.2.2.2.2.2.1 x.2.1.2.2.2.2.2.2.2.1 x.2.2.1.1 x.2.2.1.2.1 x.2.2.2.1 x.2.2.2.2.1 x.2.2.2.2.2.1 x.2.2.2.2.2.2.1 x.2.2.2.2.2.2.2.1.1 x.2.2.2.2.2.2.2.1.2.1 x.2.2.2.2.2.2.2.1.2.2.1 x.2.2.2.2.2.2.2.1.2.2.2.1 x.2.2.2.2.2.2.2.1.2.2.2.2.1 x.2.2.2.2.2.2.2.1.2.2.2.2.2.1 x.2.2.2.2.2.2.2.1.2.2.2.2.2.2.1 x.2.2.2.2.2.2.2.1.2.2.2.2.2.2.2.1 x.2.2.2.2.2.2.2.2.2.1 x.2.2.2.2.2.2.2.2.2.2.1) :: gdlk2
theorem gdlc3:CutsOk tP gdlC gdlB gdlk3 :=
 CutsOk.cut tM rfl gdlL gdlc2 _ _ _ _ _ (by kernel_rfl) fun x => by kernel_rfl
def gdlk4:Cs:=(4090,loopOf (shps [(.box Z6),(.box (shps [(.ow Z18),(.sl (.cons I (.cons I (.cons I (.cons I (.cons .bool (.cons .bool (.cons I (.cons I Z22))))))))),(.sl (.cons I Z32)),(.sl (.cons I Z9)),(.ow (.cons I (.cons I (.cons I (.cons I (.cons I (.cons I Z22))))))),(.ow (.cons I (.cons I (.cons I (.cons I Z22))))),(.ow (.cons (.sl (.cons I (.cons I Z22))) (.cons I Z11))),(.ow (.one I))])),(.box Z3),(.ow Z22),(.ow (.one I)),(.ow (.cons I (.cons I Z22))),(.rsl 4 (some 4)),J,J]) [3,4,6,7,9,10,48,49,50] [.exit 0 (shps [(.box Z6),(.box (shps [(.ow Z18),(.sl (.cons I (.cons I (.cons I (.cons I (.cons .bool (.cons .bool (.cons I (.cons I Z22))))))))),(.sl (.cons I Z32)),(.sl (.cons I Z9)),(.ow (.cons I (.cons I (.cons I (.cons I (.cons I (.cons I Z22))))))),(.ow (.cons I (.cons I (.cons I (.cons I Z22))))),(.ow (.cons (.sl (.cons I (.cons I Z22))) (.cons I Z11))),(.ow (.one I))])),(.box Z3),(.ow Z22),(.ow (.one I)),(.ow (.cons I (.cons I Z22)))]) [3,4,6,7,9,10]] gdl_4090F) :: gdlk3
theorem gdlc4:CutsOk tP gdlC gdlB gdlk4 :=
 CutsOk.loop tM rfl gdlL gdlc3 _ _ _ _ _ (by kernel_rfl) (by kernel_rfl) fun x => by kernel_rfl
def gdlk5:Cs:=(8387175,cutOf (shps [(.box (shps [(.ow Z18),(.sl (.cons I (.cons I (.cons I (.cons I (.cons .bool (.cons .bool (.cons I (.cons I Z22))))))))),(.sl (.cons I Z32)),(.sl (.cons I Z9)),(.ow (.cons I (.cons I (.cons I (.cons I (.cons I (.cons I Z22))))))),(.ow (.cons I (.cons I (.cons I (.cons I Z22))))),(.ow (.cons (.sl (.cons I (.cons I Z22))) (.cons I Z11))),(.ow (.one I))])),(.box Z3),(.ow (.one I)),(.ow (.one I)),J,.bool,(.rsl 4 (some 5)),J,J]) [4,6,9,14,17,19,141,142,143] [.ret Z26 [2],.norm (shps [(.box (shps [(.ow Z18),(.sl (.cons I (.cons I (.cons I (.cons I (.cons .bool (.cons .bool (.cons I (.cons I Z22))))))))),(.sl (.cons I Z32)),(.sl (.cons I Z9)),(.ow (.cons I (.cons I (.cons I (.cons I (.cons I (.cons I Z22))))))),(.ow (.cons I (.cons I (.cons I (.cons I Z22))))),(.ow (.cons (.sl (.cons I (.cons I Z22))) (.cons I Z11))),(.ow (.one I))])),(.box Z3),(.ow (.one I)),(.ow (.one I)),(.rsl 4 (some 5)),J,J]) [4,6,9,14,141,142,143]] fun x => gdl_8387175 x.1.1 x.1.2.1 x.1.2.2.1 x.1.2.2.2.1 x.1.2.2.2.2.1 x.1.2.2.2.2.2.1 x.1.2.2.2.2.2.2.1 x.1.2.2.2.2.2.2.2.1 x.2.1.1 x.2.1.2.1 x.2.2.1 x.2.2.2.1 x.2.2.2.2.1 x.2.2.2.2.2.1 x.2.2.2.2.2.2.2.1 x.2.2.2.2.2.2.2.2.1) :: gdlk4
theorem gdlc5:CutsOk tP gdlC gdlB gdlk5 :=
 CutsOk.cut tM rfl gdlL gdlc4 _ _ _ _ _ (by kernel_rfl) fun x => by kernel_rfl
def gdlk6:Cs:=(32762,loopOf (shps [(.box (shps [(.ow Z18),(.sl (.cons I (.cons I (.cons I (.cons I (.cons .bool (.cons .bool (.cons I (.cons I Z22))))))))),(.sl (.cons I Z32)),(.sl (.cons I Z9)),(.ow (.cons I (.cons I (.cons I (.cons I (.cons I (.cons I Z22))))))),(.ow (.cons I (.cons I (.cons I (.cons I Z22))))),(.ow (.cons (.sl (.cons I (.cons I Z22))) (.cons I Z11))),(.ow (.one I))])),(.box Z3),(.ow (.one I)),(.ow (.one I)),(.rsl 4 (some 5)),J,J]) [4,6,9,14,141,142,143] [.ret Z26 [2],.exit 2 (shps []) []] gdl_32762F) :: gdlk5
theorem gdlc6:CutsOk tP gdlC gdlB gdlk6 :=
 CutsOk.loop tM rfl gdlL gdlc5 _ _ _ _ _ (by kernel_rfl) (by kernel_rfl) fun x => by kernel_rfl
def gdlE:Entry:=⟨8,gdla,.bool,gdlo,fun x => gdl x.1⟩
theorem gdlK:EntryOk tP gdlE :=
 entry_ok tM rfl gdlL func8 (by kernel_rfl) (by kernel_rfl) gdlc6 [] _ _ _ _ (fun x => by kernel_rfl) fun x => by kernel_rfl
end
end Go.V
