/-
  The functions that CutoffCuts reaches make these data: printed by a program, checked by the kernel.
-/
import Derived.Test.YtedhbknblmfgeaaDCutoffCutsa
import Derived.Test.YtedhbknblmfgeaaProg
import Derived.KernelRfl
set_option linter.all false
namespace Go.V
open Go
noncomputable section
abbrev tP : Program := Go.Proofs.Try.prog
theorem tM : tP.follows .mixedOrders = true := by kernel_rfl
open Go.Proofs.Try
abbrev I : Ty := .int .i64
abbrev J : Shp := .int .i64
abbrev Cs := List (Nat × Cut)
abbrev bd (f : Func) : Code := f.body.getD .skip
abbrev Ok (l : List Entry) := ∀ e ∈ l, EntryOk tP e
theorem k0 : Ok [] := fun _ h => nomatch h
theorem kc {e : Entry} {l : List Entry} (h : EntryOk tP e) (t : Ok l) : Ok (e :: l) := List.forall_mem_cons.2 ⟨h, t⟩
def Z1 : Shps := shps [J, J, J, J, .bool, .bool, J, J, J, J]
def Z2 : Shps := shps [(.ro (.sl (.one (.int .u8)))), J]
def Z3 : Shps := shps [(.sl (.one I)), (.sl (.one I))]
def Z4 : Shps := shps [(.ow (.one I)), (.ow (.one I))]
def Z5 : Shps := shps [(.bo (.one I)), (.bo (.one I))]
def Z6 : Shps := shps [(.ow (.one (.int .u8))), J]
def Z7 : Shps := shps [(.sl (.one (.int .u8))), J]
def Z8 : Row := .cons I (.one (.sl (.one I)))
def Z9 : Row := .cons (.sl (.one I)) (.one I)
def Z10 : Shps := shps [J, J, J, J, J, J, J, J]
def Z11 : Shps := shps [J, J, (.sl (.one I))]
def Z12 : Shps := shps [J, J, (.ow (.one I))]
def Z13 : Row := .cons .bool (.one .bool)
def Z14 : Shps := shps [J, J, J, J, J, J]
def Z15 : Row := .cons I (.one .bool)
def Z16 : Row := .one (.sl (.one I))
def Z17 : Shps := shps [J, J, .bool]
def Z18 : Shps := shps [.bool, J, J]
def Z19 : Row := .cons I (.one I)
def Z20 : Row := .one (.int .u8)
def Z21 : Shps := shps [J, J, J]
def Z22 : Shps := shps [.bool]
def Z23 : Shps := shps [J, .bool, .bool, (.sl Z19)]
def Z24 : Row := .cons .bool (.one (.sl Z19))
def Z25 : Row := .cons .bool Z19
def Z26 : Row := .one (.sl Z19)
def Z27 : Shps := shps [(.ow (.one I)), (.ow Z25), J]
def Z28 : Shps := shps [(.ow Z25), (.ow (.one I)), J]
def Z29 : Shps := shps [(.ow Z25), (.ow (.one I))]
def Z30 : Row := .cons .bool Z24
def gaaC : Ctx := ⟨tP, 10, 0, [(1, [3, 4, 5, 6, 7, 8, 9])], [], []⟩
def gaaB := bd f11
def gaaa : Shps := (shps [.nsl])
def gaao : Shps := (shps [])
def gaaE : Entry := ⟨11, gaaa, (.box Z6), gaao, fun x => gaa⟩
theorem gaaK : EntryOk tP gaaE :=
 entry_ok tM rfl k0 func11 (by kernel_rfl) (by kernel_rfl) (CutsOk.nil (C := gaaC) (root := gaaB)) [] _ _ _ _ (fun x => by kernel_rfl) fun x => by kernel_rfl
def gabC : Ctx := ⟨tP, 77, 1, [(1, [6, 7, 8, 9, 10, 11, 12, 13, 14, 15, 16, 17, 18]), (3, [20, 21, 22, 23, 24, 25, 26]), (4, [27, 28, 29, 30, 31, 32, 33, 34, 35, 36, 37, 38]), (5, [39, 40, 41, 42, 43, 44, 45, 46, 47, 48, 49, 50, 51]), (6, [53, 54, 55, 56, 57, 58, 59, 60, 61, 62, 63, 64, 65, 66]), (7, [67, 68, 69, 70, 71, 72, 73]), (8, [74, 75, 76])], [], []⟩
def gabB := bd f37
def gaba : Shps := (shps [(.box Z6), J])
def gabo : Shps := (shps [(.box Z6)])
def gabk1 : Cs := (63, cutOf (shps [(.box Z6), J, J]) [0, 1, 5] [.ret (shps [(.box Z6), J]) [0, 4]] fun x => gab_63 x.1.1 x.1.2.1 x.2.1 x.2.2.1) :: []
theorem gabc1 : CutsOk tP gabC gabB gabk1 :=
 CutsOk.cut tM rfl k0 .nil _ _ _ _ _ (by kernel_rfl) fun x => by kernel_rfl
def gabE : Entry := ⟨37, gaba, J, gabo, fun x => gab x.1.1 x.1.2.1 x.2.1⟩
theorem gabK : EntryOk tP gabE :=
 entry_ok tM rfl k0 func37 (by kernel_rfl) (by kernel_rfl) gabc1 [] _ _ _ _ (fun x => by kernel_rfl) fun x => by kernel_rfl
def gacC : Ctx := ⟨tP, 15, 1, [(1, [7, 8, 9, 10, 11, 12, 13, 14])], [], []⟩
def gacB := bd f28
def gaca : Shps := (shps [(.box Z6), J, J])
def gaco : Shps := (shps [(.box Z6)])
theorem gacL : Ok [gabE] := kc gabK k0
def gacE : Entry := ⟨28, gaca, J, gaco, fun x => gac x.1.1 x.1.2.1 x.2.1 x.2.2.1⟩
theorem gacK : EntryOk tP gacE :=
 entry_ok tM rfl gacL func28 (by kernel_rfl) (by kernel_rfl) (CutsOk.nil (C := gacC) (root := gacB)) [] _ _ _ _ (fun x => by kernel_rfl) fun x => by kernel_rfl
def gadC : Ctx := ⟨tP, 68, 1, [(1, [8, 9, 10, 11, 12, 13, 14, 15, 16, 17]), (2, [18, 19, 20, 21, 22, 23, 24, 25, 26, 27, 28, 29, 30]), (3, [31, 32, 33, 34, 35, 36, 37, 38]), (4, [39, 40, 41, 42]), (5, [43, 44]), (6, [45]), (8, [49, 50, 51, 52, 53, 54, 55, 56, 57, 58]), (9, [59, 60, 61, 62, 63, 64, 65]), (7, [47, 48]), (10, [66, 67])], [], []⟩
def gadB := bd f39
def gada : Shps := (shps [(.box Z6)])
def gado : Shps := (shps [(.box Z6)])
theorem gadL : Ok [gacE, gabE] := kc gacK (kc gabK k0)
def gadk1 : Cs := (506, loopOf (shps [(.box Z6), (.box (shps [(.ow Z15), (.ow (.cons I (.cons I (.cons I (.cons I (.cons .bool (.cons .bool (.cons I (.cons I Z19))))))))), (.ow (.cons I Z30)), (.ow (.cons I Z8)), (.ow (.cons I (.cons I (.cons I (.cons I (.cons I (.cons I Z19))))))), (.ow (.cons I (.cons I (.cons I (.cons I Z19))))), (.ow (.cons (.sl (.cons I (.cons I Z19))) (.cons I Z9))), (.ow (.one I))])), (.box (shps [(.ow (.cons I (.cons I (.cons I Z13)))), (.ow (.one I)), J])), (.box (shps [(.ow Z15), (.ow (.cons I (.cons I (.cons I (.cons I (.cons .bool (.cons .bool (.cons I (.cons I Z19))))))))), (.ow (.cons I Z30)), (.ow (.cons I Z8)), (.ow (.cons I (.cons I (.cons I (.cons I (.cons I (.cons I Z19))))))), (.ow (.cons I (.cons I (.cons I (.cons I Z19))))), (.ow (.cons (.sl (.cons I (.cons I Z19))) (.cons I Z9))), (.ow (.one I))])), (.box (shps [(.ow (.cons I (.cons I (.cons I Z13)))), (.ow (.one I)), J])), J]) [0, 2, 3, 5, 6, 7] [.exit 0 (shps [(.box Z6), (.box (shps [(.ow Z15), (.ow (.cons I (.cons I (.cons I (.cons I (.cons .bool (.cons .bool (.cons I (.cons I Z19))))))))), (.ow (.cons I Z30)), (.ow (.cons I Z8)), (.ow (.cons I (.cons I (.cons I (.cons I (.cons I (.cons I Z19))))))), (.ow (.cons I (.cons I (.cons I (.cons I Z19))))), (.ow (.cons (.sl (.cons I (.cons I Z19))) (.cons I Z9))), (.ow (.one I))])), (.box (shps [(.ow (.cons I (.cons I (.cons I Z13)))), (.ow (.one I)), J])), (.box (shps [(.ow Z15), (.ow (.cons I (.cons I (.cons I (.cons I (.cons .bool (.cons .bool (.cons I (.cons I Z19))))))))), (.ow (.cons I Z30)), (.ow (.cons I Z8)), (.ow (.cons I (.cons I (.cons I (.cons I (.cons I (.cons I Z19))))))), (.ow (.cons I (.cons I (.cons I (.cons I Z19))))), (.ow (.cons (.sl (.cons I (.cons I Z19))) (.cons I Z9))), (.ow (.one I))])), (.box (shps [(.ow (.cons I (.cons I (.cons I Z13)))), (.ow (.one I)), J]))]) [0, 2, 3, 5, 6]] gad_506F) :: []
theorem gadc1 : CutsOk tP gadC gadB gadk1 :=
 CutsOk.loop tM rfl gadL .nil _ _ _ _ _ (by kernel_rfl) (by kernel_rfl) fun x => by kernel_rfl
def gadE : Entry := ⟨39, gada, (.tup (shps [(.agg (shps [(.ow Z15), (.ow (.cons I (.cons I (.cons I (.cons I (.cons .bool (.cons .bool (.cons I (.cons I Z19))))))))), (.ow (.cons I Z30)), (.ow (.cons I Z8)), (.ow (.cons I (.cons I (.cons I (.cons I (.cons I (.cons I Z19))))))), (.ow (.cons I (.cons I (.cons I (.cons I Z19))))), (.ow (.cons (.sl (.cons I (.cons I Z19))) (.cons I Z9))), (.ow (.one I))])), (.agg (shps [(.ow (.cons I (.cons I (.cons I Z13)))), (.ow (.one I)), J]))])), gado, fun x => gad x.1.1 x.1.2.1⟩
theorem gadK : EntryOk tP gadE :=
 entry_ok tM rfl gadL func39 (by kernel_rfl) (by kernel_rfl) gadc1 [] _ _ _ _ (fun x => by kernel_rfl) fun x => by kernel_rfl
def gaeC : Ctx := ⟨tP, 24, 0, [(1, [7, 8, 9, 10, 11, 12, 13, 14, 15, 16, 17, 18, 19, 20, 21, 22, 23])], [], []⟩
def gaeB := bd f112
def gaea : Shps := (shps [(.agg (shps [J, J])), J, J])
def gaeo : Shps := (shps [])
def gaeE : Entry := ⟨112, gaea, .bool, gaeo, fun x => gae x.1.1 x.1.2.1 x.2.1 x.2.2.1⟩
theorem gaeK : EntryOk tP gaeE :=
 entry_ok tM rfl k0 func112 (by kernel_rfl) (by kernel_rfl) (CutsOk.nil (C := gaeC) (root := gaeB)) [] _ _ _ _ (fun x => by kernel_rfl) fun x => by kernel_rfl
def gafC : Ctx := ⟨tP, 100, 0, [(1, [8, 9, 10, 11, 12, 13, 14, 15, 16]), (3, [18]), (5, [23, 24]), (6, [25, 26, 27, 28, 29, 30, 31]), (8, [33]), (9, [34, 35, 36]), (10, [37]), (12, [42, 43]), (13, [44, 45, 46, 47, 48, 49, 50, 51, 52, 53, 54, 55, 56, 57, 58, 59, 60, 61, 62, 63, 64, 65, 66, 67, 68, 69]), (15, [71, 72, 73, 74, 75, 76, 77, 78, 79, 80, 81, 82, 83, 84, 85, 86, 87]), (17, [89, 90, 91, 92, 93, 94, 95, 96, 97]), (19, [99])], [], []⟩
def gafB := bd f76
def gafa : Shps := (shps [(.agg (shps [(.sl Z15), (.sl (.cons I (.cons I (.cons I (.cons I (.cons .bool (.cons .bool (.cons I (.cons I Z19)))))))))]))])
def gafo : Shps := (shps [])
theorem gafL : Ok [gaeE] := kc gaeK k0
def gafk1 : Cs := (58, loopOf (shps [(.box (shps [(.sl Z15), (.sl (.cons I (.cons I (.cons I (.cons I (.cons .bool (.cons .bool (.cons I (.cons I Z19)))))))))])), (.sl Z15), J, J]) [1, 19, 20, 21] [.ret (shps [J]) [2], .exit 0 (shps [(.box (shps [(.sl Z15), (.sl (.cons I (.cons I (.cons I (.cons I (.cons .bool (.cons .bool (.cons I (.cons I Z19)))))))))]))]) [1]] gaf_58F) :: []
theorem gafc1 : CutsOk tP gafC gafB gafk1 :=
 CutsOk.loop tM rfl gafL .nil _ _ _ _ _ (by kernel_rfl) (by kernel_rfl) fun x => by kernel_rfl
def gafk2 : Cs := (250, loopOf (shps [J, (.sl (.cons I (.cons I (.cons I (.cons I (.cons .bool (.cons .bool (.cons I (.cons I Z19))))))))), J, J]) [5, 38, 39, 40] [.ret (shps [J]) [2], .exit 2 (shps []) []] gaf_250F) :: gafk1
theorem gafc2 : CutsOk tP gafC gafB gafk2 :=
 CutsOk.loop tM rfl gafL gafc1 _ _ _ _ _ (by kernel_rfl) (by kernel_rfl) fun x => by kernel_rfl
def gafE : Entry := ⟨76, gafa, J, gafo, fun x => gaf x.1.1 x.1.2.1⟩
theorem gafK : EntryOk tP gafE :=
 entry_ok tM rfl gafL func76 (by kernel_rfl) (by kernel_rfl) gafc2 [] _ _ _ _ (fun x => by kernel_rfl) fun x => by kernel_rfl
def gagC : Ctx := ⟨tP, 71, 0, [(1, [5, 6]), (3, [8, 9, 10, 11, 12, 13, 14, 15, 16]), (5, [18]), (7, [23, 24, 25]), (8, [26, 27, 28, 29, 30, 31, 32, 33, 34, 35, 36, 37, 38, 39, 40, 41, 42]), (10, [44, 45, 46, 47, 48, 49, 50, 51, 52, 53, 54, 55, 56, 57, 58, 59, 60, 61, 62, 63, 64, 65, 66, 67, 68]), (12, [70])], [], []⟩
def gagB := bd f77
def gaga : Shps := (shps [(.agg Z23)])
def gago : Shps := (shps [])
def gagk1 : Cs := (122, loopOf (shps [(.box Z23), (.sl Z19), J, J]) [1, 19, 20, 21] [.ret (shps [J]) [2], .exit 0 (shps []) []] gag_122F) :: []
theorem gagc1 : CutsOk tP gagC gagB gagk1 :=
 CutsOk.loop tM rfl k0 .nil _ _ _ _ _ (by kernel_rfl) (by kernel_rfl) fun x => by kernel_rfl
def gagE : Entry := ⟨77, gaga, J, gago, fun x => gag x.1.1 x.1.2.1 x.1.2.2.1 x.1.2.2.2.1⟩
theorem gagK : EntryOk tP gagE :=
 entry_ok tM rfl k0 func77 (by kernel_rfl) (by kernel_rfl) gagc1 [] _ _ _ _ (fun x => by kernel_rfl) fun x => by kernel_rfl
def gahC : Ctx := ⟨tP, 95, 0, [(1, [8, 9]), (5, [15, 16, 17]), (6, [18, 19]), (8, [21, 22, 23, 24, 25, 26, 27, 28, 29]), (11, [31]), (13, [36, 37, 38]), (14, [39, 40, 41, 42, 43]), (16, [45, 46, 47, 48, 49, 50, 51, 52, 53, 54, 55, 56, 57, 58, 59]), (17, [60]), (18, [61]), (20, [63, 64, 65, 66, 67, 68, 69, 70, 71, 72, 73, 74, 75, 76, 77, 78, 79, 80, 81, 82, 83, 84, 85, 86, 87, 88, 89, 90, 91, 92]), (22, [94])], [], []⟩
def gahB := bd f78
def gaha : Shps := (shps [(.sl (.cons I Z8))])
def gaho : Shps := (shps [])
def gahk1 : Cs := (239226, loopOf (shps [(.sl (.cons I Z8)), J, (.box Z11), .bool, (.sl (.cons I Z8)), J, J, (.sl (.one I)), J, J]) [0, 3, 4, 5, 11, 12, 13, 32, 33, 34] [.ret (shps [J]) [2], .exit 2 (shps [(.sl (.cons I Z8)), J, (.box Z11), .bool, (.sl (.cons I Z8)), J, J]) [0, 3, 4, 5, 11, 12, 13]] gah_239226F) :: []
theorem gahc1 : CutsOk tP gahC gahB gahk1 :=
 CutsOk.loop tM rfl k0 .nil _ _ _ _ _ (by kernel_rfl) (by kernel_rfl) fun x => by kernel_rfl
def gahk2 : Cs := (58, loopOf (shps [(.sl (.cons I Z8)), (.sl (.cons I Z8)), J, J]) [0, 11, 12, 13] [.ret (shps [J]) [2], .exit 0 (shps []) []] gah_58F) :: gahk1
theorem gahc2 : CutsOk tP gahC gahB gahk2 :=
 CutsOk.loop tM rfl k0 gahc1 _ _ _ _ _ (by kernel_rfl) (by kernel_rfl) fun x => by kernel_rfl
def gahE : Entry := ⟨78, gaha, J, gaho, fun x => gah x.1⟩
theorem gahK : EntryOk tP gahE :=
 entry_ok tM rfl k0 func78 (by kernel_rfl) (by kernel_rfl) gahc2 [] _ _ _ _ (fun x => by kernel_rfl) fun x => by kernel_rfl
def gaiC : Ctx := ⟨tP, 61, 0, [(1, [10, 11, 12]), (2, [13]), (3, [15]), (4, [16, 17, 18]), (6, [20]), (8, [25, 26]), (9, [27, 28]), (10, [29]), (11, [31]), (12, [32, 33, 34, 35, 36, 37]), (14, [39]), (15, [40, 41, 42]), (16, [43]), (17, [45]), (18, [46]), (20, [51, 52]), (21, [53, 54, 55, 56, 57, 58]), (23, [60])], [], []⟩
def gaiB := bd f44
def gaia : Shps := (shps [(.agg (shps [(.sl Z15), (.sl (.cons I (.cons I (.cons I (.cons I (.cons .bool (.cons .bool (.cons I (.cons I Z19))))))))), (.sl (.cons I Z30)), (.sl (.cons I Z8))]))])
def gaio : Shps := (shps [])
theorem gaiL : Ok [gafE, gagE, gahE] := kc gafK (kc gagK (kc gahK k0))
def gaik1 : Cs := (122, loopOf (shps [(.box (shps [(.sl Z15), (.sl (.cons I (.cons I (.cons I (.cons I (.cons .bool (.cons .bool (.cons I (.cons I Z19))))))))), (.sl (.cons I Z30)), (.sl (.cons I Z8))])), (.sl (.cons I Z30)), J, J]) [1, 21, 22, 23] [.ret (shps [J]) [2], .exit 0 (shps [(.box (shps [(.sl Z15), (.sl (.cons I (.cons I (.cons I (.cons I (.cons .bool (.cons .bool (.cons I (.cons I Z19))))))))), (.sl (.cons I Z30)), (.sl (.cons I Z8))]))]) [1]] gai_122F) :: []
theorem gaic1 : CutsOk tP gaiC gaiB gaik1 :=
 CutsOk.loop tM rfl gaiL .nil _ _ _ _ _ (by kernel_rfl) (by kernel_rfl) fun x => by kernel_rfl
def gaik2 : Cs := (506, loopOf (shps [(.box (shps [(.sl Z15), (.sl (.cons I (.cons I (.cons I (.cons I (.cons .bool (.cons .bool (.cons I (.cons I Z19))))))))), (.sl (.cons I Z30)), (.sl (.cons I Z8))])), (.sl (.cons I Z8)), J, J]) [1, 47, 48, 49] [.ret (shps [J]) [2], .exit 2 (shps []) []] gai_506F) :: gaik1
theorem gaic2 : CutsOk tP gaiC gaiB gaik2 :=
 CutsOk.loop tM rfl gaiL gaic1 _ _ _ _ _ (by kernel_rfl) (by kernel_rfl) fun x => by kernel_rfl
def gaiE : Entry := ⟨44, gaia, J, gaio, fun x => gai x.1.1 x.1.2.1 x.1.2.2.1 x.1.2.2.2.1⟩
theorem gaiK : EntryOk tP gaiE :=
 entry_ok tM rfl gaiL func44 (by kernel_rfl) (by kernel_rfl) gaic2 [] _ _ _ _ (fun x => by kernel_rfl) fun x => by kernel_rfl
def gajC : Ctx := ⟨tP, 24, 0, [(3, [13, 14]), (4, [15, 16, 17, 18, 19, 20, 21]), (6, [23])], [], []⟩
def gajB := bd f113
def gaja : Shps := Z11
def gajo : Shps := (shps [])
def gajk1 : Cs := (26, loopOf (shps [J, J, (.sl (.one I)), J, J]) [0, 1, 9, 10, 11] [.ret Z22 [6], .exit 0 (shps []) []] gaj_26F) :: []
theorem gajc1 : CutsOk tP gajC gajB gajk1 :=
 CutsOk.loop tM rfl k0 .nil _ _ _ _ _ (by kernel_rfl) (by kernel_rfl) fun x => by kernel_rfl
def gajE : Entry := ⟨113, gaja, .bool, gajo, fun x => gaj x.1 x.2.1 x.2.2.1⟩
theorem gajK : EntryOk tP gajE :=
 entry_ok tM rfl k0 func113 (by kernel_rfl) (by kernel_rfl) gajc1 [] _ _ _ _ (fun x => by kernel_rfl) fun x => by kernel_rfl
def gakC : Ctx := ⟨tP, 44, 0, [(1, [4, 5, 6, 7, 8]), (3, [10, 11, 12, 13, 14, 15, 16, 17, 18, 19, 20, 21, 22, 23, 24, 25, 26, 27, 28]), (5, [30, 31, 32, 33, 34, 35, 36, 37, 38, 39, 40, 41, 42, 43])], [], []⟩
def gakB := bd f79
def gaka : Shps := (shps [(.agg Z10)])
def gako : Shps := (shps [])
theorem gakL : Ok [gajE] := kc gajK k0
def gakE : Entry := ⟨79, gaka, J, gako, fun x => gak x.1.1 x.1.2.1 x.1.2.2.1 x.1.2.2.2.1 x.1.2.2.2.2.1 x.1.2.2.2.2.2.1 x.1.2.2.2.2.2.2.1 x.1.2.2.2.2.2.2.2.1⟩
theorem gakK : EntryOk tP gakE :=
 entry_ok tM rfl gakL func79 (by kernel_rfl) (by kernel_rfl) (CutsOk.nil (C := gakC) (root := gakB)) [] _ _ _ _ (fun x => by kernel_rfl) fun x => by kernel_rfl
def galC : Ctx := ⟨tP, 12, 0, [(1, [5, 6, 7, 8, 9, 10, 11])], [], []⟩
def galB := bd f54
def gala : Shps := (shps [J, J])
def galo : Shps := (shps [])
def galE : Entry := ⟨54, gala, .bool, galo, fun x => gal x.1 x.2.1⟩
theorem galK : EntryOk tP galE :=
 entry_ok tM rfl k0 func54 (by kernel_rfl) (by kernel_rfl) (CutsOk.nil (C := galC) (root := galB)) [] _ _ _ _ (fun x => by kernel_rfl) fun x => by kernel_rfl
def gamC : Ctx := ⟨tP, 62, 0, [(1, [9]), (3, [14, 15, 16]), (4, [17, 18]), (5, [19]), (6, [21]), (7, [22, 23, 24, 25, 26]), (8, [27]), (9, [30]), (10, [31, 32, 33, 34]), (11, [36]), (12, [37, 38, 39, 40]), (13, [41, 42, 43, 44]), (15, [46, 47, 48]), (17, [53, 54]), (18, [55, 56, 57, 58]), (20, [60]), (21, [61])], [], []⟩
def gamB := bd f45
def gama : Shps := (shps [(.agg (shps [(.sl Z15), (.sl (.cons I (.cons I (.cons I (.cons I (.cons .bool (.cons .bool (.cons I (.cons I Z19))))))))), (.sl (.cons I Z30)), (.sl (.cons I Z8)), (.sl (.cons I (.cons I (.cons I (.cons I (.cons I (.cons I Z19))))))), (.sl (.cons I (.cons I (.cons I (.cons I Z19))))), (.sl (.cons (.sl (.cons I (.cons I Z19))) (.cons I Z9))), (.sl (.one I))]))])
def gamo : Shps := (shps [])
theorem gamL : Ok [gakE, galE] := kc gakK (kc galK k0)
def gamk1 : Cs := (108158, loopOf (shps [(.box (shps [(.sl Z15), (.sl (.cons I (.cons I (.cons I (.cons I (.cons .bool (.cons .bool (.cons I (.cons I Z19))))))))), (.sl (.cons I Z30)), (.sl (.cons I Z8)), (.sl (.cons I (.cons I (.cons I (.cons I (.cons I (.cons I Z19))))))), (.sl (.cons I (.cons I (.cons I (.cons I Z19))))), (.sl (.cons (.sl (.cons I (.cons I Z19))) (.cons I Z9))), (.sl (.one I))])), (.box Z10), (.sl (.cons I (.cons I (.cons I (.cons I (.cons I (.cons I Z19))))))), J, J, (.sl (.cons I (.cons I (.cons I (.cons I (.cons I (.cons I Z19))))))), J, J]) [1, 4, 10, 11, 12, 49, 50, 51] [.ret (shps [J]) [2], .exit 3 (shps [(.box (shps [(.sl Z15), (.sl (.cons I (.cons I (.cons I (.cons I (.cons .bool (.cons .bool (.cons I (.cons I Z19))))))))), (.sl (.cons I Z30)), (.sl (.cons I Z8)), (.sl (.cons I (.cons I (.cons I (.cons I (.cons I (.cons I Z19))))))), (.sl (.cons I (.cons I (.cons I (.cons I Z19))))), (.sl (.cons (.sl (.cons I (.cons I Z19))) (.cons I Z9))), (.sl (.one I))])), (.sl (.cons I (.cons I (.cons I (.cons I (.cons I (.cons I Z19))))))), J, J]) [1, 10, 11, 12]] gam_108158F) :: []
theorem gamc1 : CutsOk tP gamC gamB gamk1 :=
 CutsOk.loop tM rfl gamL .nil _ _ _ _ _ (by kernel_rfl) (by kernel_rfl) fun x => by kernel_rfl
def gamk2 : Cs := (13519, cutOf (shps [(.box (shps [(.sl Z15), (.sl (.cons I (.cons I (.cons I (.cons I (.cons .bool (.cons .bool (.cons I (.cons I Z19))))))))), (.sl (.cons I Z30)), (.sl (.cons I Z8)), (.sl (.cons I (.cons I (.cons I (.cons I (.cons I (.cons I Z19))))))), (.sl (.cons I (.cons I (.cons I (.cons I Z19))))), (.sl (.cons (.sl (.cons I (.cons I Z19))) (.cons I Z9))), (.sl (.one I))])), J, (.box Z10), J, (.sl (.cons I (.cons I (.cons I (.cons I (.cons I (.cons I Z19))))))), J, J]) [1, 3, 4, 6, 10, 11, 12] [.ret (shps [J]) [2], .norm (shps [(.box (shps [(.sl Z15), (.sl (.cons I (.cons I (.cons I (.cons I (.cons .bool (.cons .bool (.cons I (.cons I Z19))))))))), (.sl (.cons I Z30)), (.sl (.cons I Z8)), (.sl (.cons I (.cons I (.cons I (.cons I (.cons I (.cons I Z19))))))), (.sl (.cons I (.cons I (.cons I (.cons I Z19))))), (.sl (.cons (.sl (.cons I (.cons I Z19))) (.cons I Z9))), (.sl (.one I))])), (.sl (.cons I (.cons I (.cons I (.cons I (.cons I (.cons I Z19))))))), J, J]) [1, 10, 11, 12]] fun x => gam_13519 x.1.1 x.1.2.1 x.1.2.2.1 x.1.2.2.2.1 x.1.2.2.2.2.1 x.1.2.2.2.2.2.1 x.1.2.2.2.2.2.2.1 x.1.2.2.2.2.2.2.2.1 x.2.1 x.2.2.1.1 x.2.2.1.2.1 x.2.2.1.2.2.1 x.2.2.1.2.2.2.1 x.2.2.1.2.2.2.2.1 x.2.2.1.2.2.2.2.2.1 x.2.2.1.2.2.2.2.2.2.1 x.2.2.1.2.2.2.2.2.2.2.1 x.2.2.2.1 x.2.2.2.2.1 x.2.2.2.2.2.1 x.2.2.2.2.2.2.1) :: gamk1
theorem gamc2 : CutsOk tP gamC gamB gamk2 :=
 CutsOk.cut tM rfl gamL gamc1 _ _ _ _ _ (by kernel_rfl) fun x => by kernel_rfl
def gamk3 : Cs := (26, loopOf (shps [(.box (shps [(.sl Z15), (.sl (.cons I (.cons I (.cons I (.cons I (.cons .bool (.cons .bool (.cons I (.cons I Z19))))))))), (.sl (.cons I Z30)), (.sl (.cons I Z8)), (.sl (.cons I (.cons I (.cons I (.cons I (.cons I (.cons I Z19))))))), (.sl (.cons I (.cons I (.cons I (.cons I Z19))))), (.sl (.cons (.sl (.cons I (.cons I Z19))) (.cons I Z9))), (.sl (.one I))])), (.sl (.cons I (.cons I (.cons I (.cons I (.cons I (.cons I Z19))))))), J, J]) [1, 10, 11, 12] [.ret (shps [J]) [2], .exit 0 (shps []) []] gam_26F) :: gamk2
theorem gamc3 : CutsOk tP gamC gamB gamk3 :=
 CutsOk.loop tM rfl gamL gamc2 _ _ _ _ _ (by kernel_rfl) (by kernel_rfl) fun x => by kernel_rfl
def gamE : Entry := ⟨45, gama, J, gamo, fun x => gam x.1.1 x.1.2.1 x.1.2.2.1 x.1.2.2.2.1 x.1.2.2.2.2.1 x.1.2.2.2.2.2.1 x.1.2.2.2.2.2.2.1 x.1.2.2.2.2.2.2.2.1⟩
theorem gamK : EntryOk tP gamE :=
 entry_ok tM rfl gamL func45 (by kernel_rfl) (by kernel_rfl) gamc3 [] _ _ _ _ (fun x => by kernel_rfl) fun x => by kernel_rfl
def ganC : Ctx := ⟨tP, 28, 0, [(1, [3, 4, 5, 6, 7, 8, 9, 10, 11, 12, 13, 14, 15, 16, 17, 18, 19, 20, 21, 22, 23, 24, 25, 26])], [], []⟩
def ganB := bd f80
def gana : Shps := (shps [(.agg Z21)])
def gano : Shps := (shps [])
def ganE : Entry := ⟨80, gana, J, gano, fun x => gan x.1.1 x.1.2.1 x.1.2.2.1⟩
theorem ganK : EntryOk tP ganE :=
 entry_ok tM rfl k0 func80 (by kernel_rfl) (by kernel_rfl) (CutsOk.nil (C := ganC) (root := ganB)) [] _ _ _ _ (fun x => by kernel_rfl) fun x => by kernel_rfl
def gaoC : Ctx := ⟨tP, 62, 0, [(1, [5]), (3, [8]), (4, [9]), (5, [10]), (6, [11, 12, 13, 14, 15, 16]), (8, [19]), (9, [20, 21, 22, 23, 24, 25, 26, 27, 28, 29, 30, 31, 32, 33, 34, 35]), (11, [38]), (12, [39, 40, 41, 42, 43, 44, 45, 46]), (14, [48, 49, 50, 51, 52, 53, 54]), (16, [56, 57]), (17, [59, 60, 61])], [], []⟩
def gaoB := bd f46
def gaoa : Shps := (shps [(.agg (shps [(.sl Z15), (.sl (.cons I (.cons I (.cons I (.cons I (.cons .bool (.cons .bool (.cons I (.cons I Z19))))))))), (.sl (.cons I Z30)), (.sl (.cons I Z8)), (.sl (.cons I (.cons I (.cons I (.cons I (.cons I (.cons I Z19))))))), (.sl (.cons I (.cons I (.cons I (.cons I Z19))))), (.sl (.cons (.sl (.cons I (.cons I Z19))) (.cons I Z9))), (.sl (.one I))])), (.agg Z14)])
def gaoo : Shps := (shps [])
theorem gaoL : Ok [galE, ganE] := kc galK (kc ganK k0)
def gaok1 : Cs := (53, cutOf (shps [(.box (shps [(.sl Z15), (.sl (.cons I (.cons I (.cons I (.cons I (.cons .bool (.cons .bool (.cons I (.cons I Z19))))))))), (.sl (.cons I Z30)), (.sl (.cons I Z8)), (.sl (.cons I (.cons I (.cons I (.cons I (.cons I (.cons I Z19))))))), (.sl (.cons I (.cons I (.cons I (.cons I Z19))))), (.sl (.cons (.sl (.cons I (.cons I Z19))) (.cons I Z9))), (.sl (.one I))])), (.box Z14), J, .bool]) [2, 3, 6, 7] [.ret (shps [J]) [4], .norm (shps [(.box Z14)]) [3]] fun x => gao_53 x.1.1 x.1.2.1 x.1.2.2.1 x.1.2.2.2.1 x.1.2.2.2.2.1 x.1.2.2.2.2.2.1 x.1.2.2.2.2.2.2.1 x.1.2.2.2.2.2.2.2.1 x.2.1.1 x.2.1.2.1 x.2.1.2.2.1 x.2.1.2.2.2.1 x.2.1.2.2.2.2.1 x.2.1.2.2.2.2.2.1 x.2.2.1 x.2.2.2.1) :: []
theorem gaoc1 : CutsOk tP gaoC gaoB gaok1 :=
 CutsOk.cut tM rfl gaoL .nil _ _ _ _ _ (by kernel_rfl) fun x => by kernel_rfl
def gaok2 : Cs := (7, cutOf (shps [(.box Z14)]) [3] [.ret (shps [J]) [4]] fun x => gao_7 x.1.1 x.1.2.1 x.1.2.2.1 x.1.2.2.2.1 x.1.2.2.2.2.1 x.1.2.2.2.2.2.1) :: gaok1
theorem gaoc2 : CutsOk tP gaoC gaoB gaok2 :=
 CutsOk.cut tM rfl gaoL gaoc1 _ _ _ _ _ (by kernel_rfl) fun x => by kernel_rfl
def gaoE : Entry := ⟨46, gaoa, J, gaoo, fun x => gao x.1.1 x.1.2.1 x.1.2.2.1 x.1.2.2.2.1 x.1.2.2.2.2.1 x.1.2.2.2.2.2.1 x.1.2.2.2.2.2.2.1 x.1.2.2.2.2.2.2.2.1 x.2.1.1 x.2.1.2.1 x.2.1.2.2.1 x.2.1.2.2.2.1 x.2.1.2.2.2.2.1 x.2.1.2.2.2.2.2.1⟩
theorem gaoK : EntryOk tP gaoE :=
 entry_ok tM rfl gaoL func46 (by kernel_rfl) (by kernel_rfl) gaoc2 [] _ _ _ _ (fun x => by kernel_rfl) fun x => by kernel_rfl
def gapC : Ctx := ⟨tP, 122, 0, [(1, [16]), (3, [18, 19, 20, 21]), (4, [22]), (5, [25]), (6, [26, 27, 28, 29, 30, 31, 32, 33, 34, 35, 36, 37, 38, 39, 40, 41, 42, 43, 44]), (7, [46]), (8, [47, 48, 49, 50, 51, 52, 53, 54]), (9, [55, 56, 57, 58, 59, 60, 61, 62, 63, 64, 65, 66, 67, 68, 69, 70, 71, 72, 73, 74, 75]), (10, [77]), (11, [78]), (12, [79, 80, 81, 82, 83, 84, 85, 86]), (13, [87, 88, 89, 90, 91, 92, 93, 94, 95, 96, 97, 98, 99, 100, 101, 102, 103, 104, 105, 106]), (15, [108, 109, 110, 111, 112, 113, 114, 115]), (16, [116, 117, 118, 119, 120, 121])], [], []⟩
def gapB := bd f115
def gapa : Shps := (shps [(.sl (.cons I (.cons I Z19))), J])
def gapo : Shps := (shps [])
def gapR (rec : (List (Int × Int × Int × Int) × Int × Unit) → Option ((Int × Int × Bool × Unit) × Unit)) : Entry := ⟨115, gapa, (.tup Z17), gapo, rec⟩
def gapO (rec : (List (Int × Int × Int × Int) × Int × Unit) → Option ((Int × Int × Bool × Unit) × Unit)) : List Entry := [gapR rec]
theorem gapL (rec : (List (Int × Int × Int × Int) × Int × Unit) → Option ((Int × Int × Bool × Unit) × Unit)) (hrec : EntryOk tP (gapR rec)) : ∀ e ∈ (gapO rec), EntryOk tP e := by
 intro e he
 simp only [gapO, List.mem_cons, List.not_mem_nil, or_false] at he
 rcases he with rfl
 ·exact hrec
def gapk0 (rec : (List (Int × Int × Int × Int) × Int × Unit) → Option ((Int × Int × Bool × Unit) × Unit)) : List (Nat × Cut) := []
theorem gapc0 (rec : (List (Int × Int × Int × Int) × Int × Unit) → Option ((Int × Int × Bool × Unit) × Unit)) (hrec : EntryOk tP (gapR rec)) : CutsOk tP gapC gapB (gapk0 rec) := CutsOk.nil
def gap_3935s : Shps := (shps [(.sl (.cons I (.cons I Z19))), J, (.box (shps [J, J, J, J])), .bool])
def gap_3935w : List Way := [.ret Z17 [4, 5, 6], .norm (shps []) []]
def gapk1 (rec : (List (Int × Int × Int × Int) × Int × Unit) → Option ((Int × Int × Bool × Unit) × Unit)) : List (Nat × Cut) := (3935, cutOf gap_3935s [0, 1, 7, 76] gap_3935w fun x => gap_3935 rec x.1 x.2.1 x.2.2.1.1 x.2.2.1.2.1 x.2.2.1.2.2.1 x.2.2.1.2.2.2.1 x.2.2.2.1) :: (gapk0 rec)
theorem gapc1 (rec : (List (Int × Int × Int × Int) × Int × Unit) → Option ((Int × Int × Bool × Unit) × Unit)) (hrec : EntryOk tP (gapR rec)) : CutsOk tP gapC gapB (gapk1 rec) :=
 CutsOk.cut tM rfl (gapL rec hrec) (gapc0 rec hrec) 3935 gap_3935s [0, 1, 7, 76] gap_3935w (fun x => gap_3935 rec x.1 x.2.1 x.2.2.1.1 x.2.2.1.2.1 x.2.2.1.2.2.1 x.2.2.1.2.2.2.1 x.2.2.2.1) (by kernel_rfl) fun x => by kernel_rfl
theorem gapKb (rec : (List (Int × Int × Int × Int) × Int × Unit) → Option ((Int × Int × Bool × Unit) × Unit)) (hrec : EntryOk tP (gapR rec)) : EntryOk tP ⟨115, gapa, (.tup Z17), gapo, fun x => gapb rec x.1 x.2.1⟩ :=
 entry_ok tM rfl (gapL rec hrec) (fn := f115) func115 (by kernel_rfl) (root := gapB) (by kernel_rfl) (gapc1 rec hrec) [] gapa (.tup Z17) gapo (fun x => gapb rec x.1 x.2.1) (fun x => by kernel_rfl) fun x => by kernel_rfl
theorem gapKi : ∀ n, EntryOk tP (gapR (gapi n))
 | 0 => fun x y h => by cases h
 | n + 1 => gapKb (gapi n) (gapKi n)
def gapE : Entry := ⟨115, gapa, (.tup Z17), gapo, fun x => gap x.1 x.2.1⟩
theorem gapK : EntryOk tP gapE := gapKi 1000000
def gaqC : Ctx := ⟨tP, 32, 0, [(1, [6, 7, 8, 9, 10, 11, 12]), (3, [14, 15, 16, 17, 18, 19, 20, 21, 22]), (4, [23, 24, 25, 26, 27, 28, 29, 30, 31])], [], []⟩
def gaqB := bd f98
def gaqa : Shps := (shps [(.sl (.cons I (.cons I Z19)))])
def gaqo : Shps := (shps [])
theorem gaqL : Ok [gapE] := kc gapK k0
def gaqE : Entry := ⟨98, gaqa, .bool, gaqo, fun x => gaq x.1⟩
theorem gaqK : EntryOk tP gaqE :=
 entry_ok tM rfl gaqL func98 (by kernel_rfl) (by kernel_rfl) (CutsOk.nil (C := gaqC) (root := gaqB)) [] _ _ _ _ (fun x => by kernel_rfl) fun x => by kernel_rfl
def garC : Ctx := ⟨tP, 26, 0, [(1, [7, 8]), (5, [14, 15]), (6, [16, 17, 18, 19, 20, 21, 22, 23]), (8, [25])], [], []⟩
def garB := bd f81
def gara : Shps := (shps [(.sl (.cons I (.cons I Z19))), J])
def garo : Shps := (shps [])
theorem garL : Ok [gaqE] := kc gaqK k0
def gark1 : Cs := (58, loopOf (shps [J, (.sl (.cons I (.cons I Z19))), J, J]) [1, 10, 11, 12] [.ret (shps [J]) [4], .exit 0 (shps []) []] gar_58F) :: []
theorem garc1 : CutsOk tP garC garB gark1 :=
 CutsOk.loop tM rfl garL .nil _ _ _ _ _ (by kernel_rfl) (by kernel_rfl) fun x => by kernel_rfl
def garE : Entry := ⟨81, gara, J, garo, fun x => gar x.1 x.2.1⟩
theorem garK : EntryOk tP garE :=
 entry_ok tM rfl garL func81 (by kernel_rfl) (by kernel_rfl) garc1 [] _ _ _ _ (fun x => by kernel_rfl) fun x => by kernel_rfl
def gasC : Ctx := ⟨tP, 66, 0, [(1, [8, 9, 10, 11, 12, 13]), (2, [14]), (3, [16]), (4, [17, 18, 19, 20, 21, 22, 23, 24, 25, 26, 27, 28, 29, 30, 31, 32, 33]), (6, [35]), (8, [40, 41, 42]), (9, [43, 44, 45, 46, 47, 48, 49, 50, 51, 52, 53, 54, 55, 56, 57, 58, 59, 60, 61, 62, 63]), (11, [65])], [], []⟩
def gasB := bd f47
def gasa : Shps := (shps [(.agg (shps [(.sl Z15), (.sl (.cons I (.cons I (.cons I (.cons I (.cons .bool (.cons .bool (.cons I (.cons I Z19))))))))), (.sl (.cons I Z30)), (.sl (.cons I Z8)), (.sl (.cons I (.cons I (.cons I (.cons I (.cons I (.cons I Z19))))))), (.sl (.cons I (.cons I (.cons I (.cons I Z19))))), (.sl (.cons (.sl (.cons I (.cons I Z19))) (.cons I Z9))), (.sl (.one I))])), (.agg (shps [(.sl (.cons I (.cons I Z19))), J, (.sl (.one I)), J]))])
def gaso : Shps := (shps [])
theorem gasL : Ok [garE, galE] := kc garK (kc galK k0)
def gask1 : Cs := (122, loopOf (shps [(.box (shps [(.sl Z15), (.sl (.cons I (.cons I (.cons I (.cons I (.cons .bool (.cons .bool (.cons I (.cons I Z19))))))))), (.sl (.cons I Z30)), (.sl (.cons I Z8)), (.sl (.cons I (.cons I (.cons I (.cons I (.cons I (.cons I Z19))))))), (.sl (.cons I (.cons I (.cons I (.cons I Z19))))), (.sl (.cons (.sl (.cons I (.cons I Z19))) (.cons I Z9))), (.sl (.one I))])), (.box (shps [(.sl (.cons I (.cons I Z19))), J, (.sl (.one I)), J])), (.sl (.one I)), J, J]) [2, 3, 36, 37, 38] [.ret (shps [J]) [4], .exit 0 (shps []) []] gas_122F) :: []
theorem gasc1 : CutsOk tP gasC gasB gask1 :=
 CutsOk.loop tM rfl gasL .nil _ _ _ _ _ (by kernel_rfl) (by kernel_rfl) fun x => by kernel_rfl
def gasE : Entry := ⟨47, gasa, J, gaso, fun x => gas x.1.1 x.1.2.1 x.1.2.2.1 x.1.2.2.2.1 x.1.2.2.2.2.1 x.1.2.2.2.2.2.1 x.1.2.2.2.2.2.2.1 x.1.2.2.2.2.2.2.2.1 x.2.1.1 x.2.1.2.1 x.2.1.2.2.1 x.2.1.2.2.2.1⟩
theorem gasK : EntryOk tP gasE :=
 entry_ok tM rfl gasL func47 (by kernel_rfl) (by kernel_rfl) gasc1 [] _ _ _ _ (fun x => by kernel_rfl) fun x => by kernel_rfl
def gatC : Ctx := ⟨tP, 90, 0, [(1, [13, 14, 15]), (2, [16]), (3, [18]), (4, [19, 20, 21, 22, 23, 24, 25, 26, 27, 28, 29, 30, 31, 32, 33, 34, 35, 36, 37, 38, 39]), (6, [41, 42]), (7, [43]), (8, [45]), (9, [46]), (11, [51, 52]), (12, [53, 54, 55]), (13, [56]), (14, [58]), (15, [59]), (16, [60]), (18, [65, 66]), (19, [67, 68, 69]), (20, [70]), (21, [72]), (22, [73]), (23, [74]), (25, [79, 80]), (26, [81, 82, 83, 84, 85, 86, 87]), (28, [89])], [], []⟩
def gatB := bd f14
def gata : Shps := (shps [(.agg (shps [(.sl Z15), (.sl (.cons I (.cons I (.cons I (.cons I (.cons .bool (.cons .bool (.cons I (.cons I Z19))))))))), (.sl (.cons I Z30)), (.sl (.cons I Z8)), (.sl (.cons I (.cons I (.cons I (.cons I (.cons I (.cons I Z19))))))), (.sl (.cons I (.cons I (.cons I (.cons I Z19))))), (.sl (.cons (.sl (.cons I (.cons I Z19))) (.cons I Z9))), (.sl (.one I))]))])
def gato : Shps := (shps [])
theorem gatL : Ok [gaiE, gamE, gaoE, gasE] := kc gaiK (kc gamK (kc gaoK (kc gasK k0)))
def gatk1 : Cs := (250, loopOf (shps [(.box (shps [(.sl Z15), (.sl (.cons I (.cons I (.cons I (.cons I (.cons .bool (.cons .bool (.cons I (.cons I Z19))))))))), (.sl (.cons I Z30)), (.sl (.cons I Z8)), (.sl (.cons I (.cons I (.cons I (.cons I (.cons I (.cons I Z19))))))), (.sl (.cons I (.cons I (.cons I (.cons I Z19))))), (.sl (.cons (.sl (.cons I (.cons I Z19))) (.cons I Z9))), (.sl (.one I))])), (.sl (.cons I (.cons I (.cons I (.cons I Z19))))), J, J]) [1, 47, 48, 49] [.ret (shps [J]) [2], .exit 0 (shps [(.box (shps [(.sl Z15), (.sl (.cons I (.cons I (.cons I (.cons I (.cons .bool (.cons .bool (.cons I (.cons I Z19))))))))), (.sl (.cons I Z30)), (.sl (.cons I Z8)), (.sl (.cons I (.cons I (.cons I (.cons I (.cons I (.cons I Z19))))))), (.sl (.cons I (.cons I (.cons I (.cons I Z19))))), (.sl (.cons (.sl (.cons I (.cons I Z19))) (.cons I Z9))), (.sl (.one I))]))]) [1]] gat_250F) :: []
theorem gatc1 : CutsOk tP gatC gatB gatk1 :=
 CutsOk.loop tM rfl gatL .nil _ _ _ _ _ (by kernel_rfl) (by kernel_rfl) fun x => by kernel_rfl
def gatk2 : Cs := (506, loopOf (shps [(.box (shps [(.sl Z15), (.sl (.cons I (.cons I (.cons I (.cons I (.cons .bool (.cons .bool (.cons I (.cons I Z19))))))))), (.sl (.cons I Z30)), (.sl (.cons I Z8)), (.sl (.cons I (.cons I (.cons I (.cons I (.cons I (.cons I Z19))))))), (.sl (.cons I (.cons I (.cons I (.cons I Z19))))), (.sl (.cons (.sl (.cons I (.cons I Z19))) (.cons I Z9))), (.sl (.one I))])), (.sl (.cons (.sl (.cons I (.cons I Z19))) (.cons I Z9))), J, J]) [1, 61, 62, 63] [.ret (shps [J]) [2], .exit 2 (shps [(.box (shps [(.sl Z15), (.sl (.cons I (.cons I (.cons I (.cons I (.cons .bool (.cons .bool (.cons I (.cons I Z19))))))))), (.sl (.cons I Z30)), (.sl (.cons I Z8)), (.sl (.cons I (.cons I (.cons I (.cons I (.cons I (.cons I Z19))))))), (.sl (.cons I (.cons I (.cons I (.cons I Z19))))), (.sl (.cons (.sl (.cons I (.cons I Z19))) (.cons I Z9))), (.sl (.one I))]))]) [1]] gat_506F) :: gatk1
theorem gatc2 : CutsOk tP gatC gatB gatk2 :=
 CutsOk.loop tM rfl gatL gatc1 _ _ _ _ _ (by kernel_rfl) (by kernel_rfl) fun x => by kernel_rfl
def gatk3 : Cs := (1018, loopOf (shps [(.sl (.one I)), J, J]) [75, 76, 77] [.ret (shps [J]) [2], .exit 4 (shps []) []] gat_1018F) :: gatk2
theorem gatc3 : CutsOk tP gatC gatB gatk3 :=
 CutsOk.loop tM rfl gatL gatc2 _ _ _ _ _ (by kernel_rfl) (by kernel_rfl) fun x => by kernel_rfl
def gatE : Entry := ⟨14, gata, J, gato, fun x => gat x.1.1 x.1.2.1 x.1.2.2.1 x.1.2.2.2.1 x.1.2.2.2.2.1 x.1.2.2.2.2.2.1 x.1.2.2.2.2.2.2.1 x.1.2.2.2.2.2.2.2.1⟩
theorem gatK : EntryOk tP gatE :=
 entry_ok tM rfl gatL func14 (by kernel_rfl) (by kernel_rfl) gatc3 [] _ _ _ _ (fun x => by kernel_rfl) fun x => by kernel_rfl
def gauC : Ctx := ⟨tP, 2, 0, [(1, [1])], [], []⟩
def gauB := bd f55
def gaua : Shps := (shps [])
def gauo : Shps := (shps [])
def gauE : Entry := ⟨55, gaua, (.agg (shps [J, J])), gauo, fun x => gau⟩
theorem gauK : EntryOk tP gauE :=
 entry_ok tM rfl k0 func55 (by kernel_rfl) (by kernel_rfl) (CutsOk.nil (C := gauC) (root := gauB)) [] _ _ _ _ (fun x => by kernel_rfl) fun x => by kernel_rfl
def gavC : Ctx := ⟨tP, 13, 0, [(1, [3, 4, 5, 6, 7, 8, 9, 10, 11, 12])], [], []⟩
def gavB := bd f92
def gava : Shps := (shps [J])
def gavo : Shps := (shps [])
def gavE : Entry := ⟨92, gava, .bool, gavo, fun x => gav x.1⟩
theorem gavK : EntryOk tP gavE :=
 entry_ok tM rfl k0 func92 (by kernel_rfl) (by kernel_rfl) (CutsOk.nil (C := gavC) (root := gavB)) [] _ _ _ _ (fun x => by kernel_rfl) fun x => by kernel_rfl
def gawC : Ctx := ⟨tP, 83, 0, [(1, [10]), (2, [11, 12, 13, 14, 15, 16, 17, 18, 19, 20, 21, 22, 23, 24, 25, 26, 27, 28, 29, 30, 31, 32, 33, 34, 35, 36, 37, 38]), (3, [40]), (4, [41, 42]), (5, [44, 45]), (6, [46, 47, 48, 49, 50, 51, 52, 53, 54]), (7, [55, 56, 57, 58, 59, 60, 61, 62, 63, 64, 65]), (8, [66, 67, 68, 69, 70, 71, 72]), (9, [74, 75, 76, 77, 78, 79, 80, 81]), (10, [82])], [], []⟩
def gawB := bd f56
def gawa : Shps := (shps [(.agg Z10), (.agg (shps [J, J, J, J])), J])
def gawo : Shps := (shps [])
theorem gawL : Ok [gauE, gakE, gavE] := kc gauK (kc gakK (kc gavK k0))
def gawE : Entry := ⟨56, gawa, (.agg (shps [J, J])), gawo, fun x => gaw x.1.1 x.1.2.1 x.1.2.2.1 x.1.2.2.2.1 x.1.2.2.2.2.1 x.1.2.2.2.2.2.1 x.1.2.2.2.2.2.2.1 x.1.2.2.2.2.2.2.2.1 x.2.1.1 x.2.1.2.1 x.2.1.2.2.1 x.2.1.2.2.2.1 x.2.2.1⟩
theorem gawK : EntryOk tP gawE :=
 entry_ok tM rfl gawL func56 (by kernel_rfl) (by kernel_rfl) (CutsOk.nil (C := gawC) (root := gawB)) [] _ _ _ _ (fun x => by kernel_rfl) fun x => by kernel_rfl
def gaxC : Ctx := ⟨tP, 42, 0, [(1, [9, 10, 11, 12, 13, 14, 15, 16, 17, 18, 19, 20, 21, 22, 23, 24, 25, 26, 27, 28]), (2, [30]), (3, [31, 32, 33, 34, 35, 36, 37, 38, 39, 40, 41])], [], []⟩
def gaxB := bd f20
def gaxa : Shps := (shps [(.agg (shps [(.sl Z15), (.sl (.cons I (.cons I (.cons I (.cons I (.cons .bool (.cons .bool (.cons I (.cons I Z19))))))))), (.sl (.cons I Z30)), (.sl (.cons I Z8)), (.sl (.cons I (.cons I (.cons I (.cons I (.cons I (.cons I Z19))))))), (.sl (.cons I (.cons I (.cons I (.cons I Z19))))), (.sl (.cons (.sl (.cons I (.cons I Z19))) (.cons I Z9))), (.sl (.one I))])), (.sl (.cons I (.cons I Z19))), J, J])
def gaxo : Shps := (shps [])
theorem gaxL : Ok [galE, gauE, gawE] := kc galK (kc gauK (kc gawK k0))
def gaxE : Entry := ⟨20, gaxa, (.agg (shps [J, J])), gaxo, fun x => gax x.1.1 x.1.2.1 x.1.2.2.1 x.1.2.2.2.1 x.1.2.2.2.2.1 x.1.2.2.2.2.2.1 x.1.2.2.2.2.2.2.1 x.1.2.2.2.2.2.2.2.1 x.2.1 x.2.2.1 x.2.2.2.1⟩
theorem gaxK : EntryOk tP gaxE :=
 entry_ok tM rfl gaxL func20 (by kernel_rfl) (by kernel_rfl) (CutsOk.nil (C := gaxC) (root := gaxB)) [] _ _ _ _ (fun x => by kernel_rfl) fun x => by kernel_rfl
def gayC : Ctx := ⟨tP, 21, 0, [(1, [6, 7, 8, 9, 10]), (3, [12, 13, 14, 15]), (5, [17, 18, 19, 20])], [], []⟩
def gayB := bd f60
def gaya : Shps := (shps [(.agg (shps [J, J])), J])
def gayo : Shps := (shps [])
def gayE : Entry := ⟨60, gaya, J, gayo, fun x => gay x.1.1 x.1.2.1 x.2.1⟩
theorem gayK : EntryOk tP gayE :=
 entry_ok tM rfl k0 func60 (by kernel_rfl) (by kernel_rfl) (CutsOk.nil (C := gayC) (root := gayB)) [] _ _ _ _ (fun x => by kernel_rfl) fun x => by kernel_rfl
def gazC : Ctx := ⟨tP, 97, 0, [(1, [11, 12]), (2, [13]), (3, [15, 16]), (4, [17, 18, 19, 20, 21, 22, 23, 24, 25, 26, 27]), (5, [29]), (6, [30, 31, 32, 33, 34, 35, 36, 37, 38, 39, 40, 41, 42, 43, 44, 45, 46, 47, 48, 49, 50, 51, 52, 53, 54, 55, 56, 57, 58]), (7, [60]), (8, [61, 62]), (13, [78, 79, 80, 81, 82]), (14, [83, 84]), (15, [86, 87, 88]), (16, [90, 91, 92, 93, 94]), (17, [95]), (9, [63, 64]), (10, [66, 67]), (11, [68, 69, 70, 71, 72, 73]), (12, [75, 76]), (18, [96])], [], []⟩
def gazB := bd f58
def gaza : Shps := (shps [(.agg Z21), (.agg Z18), (.agg (shps [J, J])), J])
def gazo : Shps := (shps [])
theorem gazL : Ok [ganE, gayE] := kc ganK (kc gayK k0)
def gazk1 : Cs := (32383, cutOf (shps [J, (.box Z21), (.box Z18), (.box Z18)]) [3, 4, 5, 8] [.norm (shps [(.box Z18), (.box Z18)]) [5, 8]] fun x => gaz_32383 x.1 x.2.1.1 x.2.1.2.1 x.2.1.2.2.1 x.2.2.1.1 x.2.2.1.2.1 x.2.2.1.2.2.1 x.2.2.2.1.1 x.2.2.2.1.2.1 x.2.2.2.1.2.2.1) :: []
theorem gazc1 : CutsOk tP gazC gazB gazk1 :=
 CutsOk.cut tM rfl gazL .nil _ _ _ _ _ (by kernel_rfl) fun x => by kernel_rfl
def gazE : Entry := ⟨58, gaza, (.tup (shps [(.agg Z18), J])), gazo, fun x => gaz x.1.1 x.1.2.1 x.1.2.2.1 x.2.1.1 x.2.1.2.1 x.2.1.2.2.1 x.2.2.1.1 x.2.2.1.2.1 x.2.2.2.1⟩
theorem gazK : EntryOk tP gazE :=
 entry_ok tM rfl gazL func58 (by kernel_rfl) (by kernel_rfl) gazc1 [] _ _ _ _ (fun x => by kernel_rfl) fun x => by kernel_rfl
def gbaC : Ctx := ⟨tP, 18, 0, [(1, [8, 9, 10]), (3, [12, 13, 14, 15, 16, 17])], [], []⟩
def gbaB := bd f59
def gbaa : Shps := (shps [(.agg Z14), (.agg Z18), (.agg (shps [J, J]))])
def gbao : Shps := (shps [])
theorem gbaL : Ok [gayE] := kc gayK k0
def gbaE : Entry := ⟨59, gbaa, J, gbao, fun x => gba x.1.1 x.1.2.1 x.1.2.2.1 x.1.2.2.2.1 x.1.2.2.2.2.1 x.1.2.2.2.2.2.1 x.2.1.1 x.2.1.2.1 x.2.1.2.2.1 x.2.2.1.1 x.2.2.1.2.1⟩
theorem gbaK : EntryOk tP gbaE :=
 entry_ok tM rfl gbaL func59 (by kernel_rfl) (by kernel_rfl) (CutsOk.nil (C := gbaC) (root := gbaB)) [] _ _ _ _ (fun x => by kernel_rfl) fun x => by kernel_rfl
def gbbC : Ctx := ⟨tP, 27, 0, [(1, [4, 5, 6, 7, 8]), (3, [10, 11, 12, 13, 14, 15, 16, 17]), (5, [19, 20, 21, 22, 23, 24, 25, 26])], [], []⟩
def gbbB := bd f61
def gbba : Shps := (shps [(.agg (shps [J, J]))])
def gbbo : Shps := (shps [])
def gbbE : Entry := ⟨61, gbba, J, gbbo, fun x => gbb x.1.1 x.1.2.1⟩
theorem gbbK : EntryOk tP gbbE :=
 entry_ok tM rfl k0 func61 (by kernel_rfl) (by kernel_rfl) (CutsOk.nil (C := gbbC) (root := gbbB)) [] _ _ _ _ (fun x => by kernel_rfl) fun x => by kernel_rfl
def gbcC : Ctx := ⟨tP, 39, 0, [(1, [6, 7, 8, 9, 10]), (3, [12, 13, 14, 15, 16, 17, 18, 19, 20, 21, 22, 23, 24, 25, 26]), (5, [28, 29, 30, 31, 32, 33, 34, 35, 36, 37, 38])], [], []⟩
def gbcB := bd f93
def gbca : Shps := (shps [(.agg (shps [J, J])), J])
def gbco : Shps := (shps [])
def gbcE : Entry := ⟨93, gbca, J, gbco, fun x => gbc x.1.1 x.1.2.1 x.2.1⟩
theorem gbcK : EntryOk tP gbcE :=
 entry_ok tM rfl k0 func93 (by kernel_rfl) (by kernel_rfl) (CutsOk.nil (C := gbcC) (root := gbcB)) [] _ _ _ _ (fun x => by kernel_rfl) fun x => by kernel_rfl
def gbdC : Ctx := ⟨tP, 41, 0, [(1, [8, 9, 10]), (4, [15, 16, 17]), (5, [18, 19, 20, 21, 22, 23, 24, 25, 26]), (6, [28, 29, 30, 31, 32, 33, 34, 35, 36, 37, 38]), (7, [39]), (8, [40])], [], []⟩
def gbdB := bd f62
def gbda : Shps := (shps [(.sl Z19), (.sl Z19)])
def gbdo : Shps := (shps [])
theorem gbdL : Ok [gbcE] := kc gbcK k0
def gbdk1 : Cs := (58, loopOf (shps [(.sl Z19), (.ow (.one I)), (.sl Z19), J, J]) [0, 5, 11, 12, 13] [.exit 0 (shps [(.ow (.one I))]) [5]] gbd_58F) :: []
theorem gbdc1 : CutsOk tP gbdC gbdB gbdk1 :=
 CutsOk.loop tM rfl gbdL .nil _ _ _ _ _ (by kernel_rfl) (by kernel_rfl) fun x => by kernel_rfl
def gbdE : Entry := ⟨62, gbda, (.ow (.one I)), gbdo, fun x => gbd x.1 x.2.1⟩
theorem gbdK : EntryOk tP gbdE :=
 entry_ok tM rfl gbdL func62 (by kernel_rfl) (by kernel_rfl) gbdc1 [] _ _ _ _ (fun x => by kernel_rfl) fun x => by kernel_rfl
def gbeC : Ctx := ⟨tP, 152, 0, [(1, [21, 22]), (2, [23]), (3, [25]), (4, [26, 27, 28, 29, 30, 31, 32, 33, 34, 35, 36, 37, 38, 39, 40, 41, 42, 43, 44, 45, 46, 47, 48]), (6, [50, 51, 52, 53, 54]), (8, [56, 57, 58, 59, 60]), (9, [61]), (11, [66, 67, 68]), (12, [69, 70, 71, 72, 73, 74]), (13, [75]), (14, [78]), (15, [79, 80, 81, 82, 83, 84, 85, 86, 87, 88, 89, 90]), (16, [91]), (17, [93]), (18, [94, 95, 96, 97, 98, 99, 100, 101, 102, 103, 104]), (19, [106]), (20, [107, 108, 109, 110, 111, 112, 113, 114]), (21, [116]), (22, [117, 118, 119, 120, 121]), (23, [123]), (24, [124, 125, 126]), (25, [127, 128]), (26, [130, 131, 132]), (27, [134]), (28, [135, 136, 137, 138, 139, 140, 141, 142, 143, 144, 145, 146, 147, 148]), (29, [149]), (30, [150, 151])], [], []⟩
def gbeB := bd f22
def gbea : Shps := (shps [(.agg (shps [(.sl Z15), (.sl (.cons I (.cons I (.cons I (.cons I (.cons .bool (.cons .bool (.cons I (.cons I Z19))))))))), (.sl (.cons I Z30)), (.sl (.cons I Z8)), (.sl (.cons I (.cons I (.cons I (.cons I (.cons I (.cons I Z19))))))), (.sl (.cons I (.cons I (.cons I (.cons I Z19))))), (.sl (.cons (.sl (.cons I (.cons I Z19))) (.cons I Z9))), (.sl (.one I))])), (.sl (.cons I (.cons I Z19))), (.sl Z25), (.sl Z19), J])
def gbeo : Shps := (shps [])
theorem gbeL : Ok [gatE, gaxE, gazE, gbaE, gayE, gbbE, gauE, gbdE] := kc gatK (kc gaxK (kc gazK (kc gbaK (kc gayK (kc gbbK (kc gauK (kc gbdK k0)))))))
def gbek1 : Cs := (506, loopOf (shps [(.sl (.cons I (.cons I Z19))), (.sl Z25), (.sl Z19), J, (.box (shps [(.sl Z15), (.sl (.cons I (.cons I (.cons I (.cons I (.cons .bool (.cons .bool (.cons I (.cons I Z19))))))))), (.sl (.cons I Z30)), (.sl (.cons I Z8)), (.sl (.cons I (.cons I (.cons I (.cons I (.cons I (.cons I Z19))))))), (.sl (.cons I (.cons I (.cons I (.cons I Z19))))), (.sl (.cons (.sl (.cons I (.cons I Z19))) (.cons I Z9))), (.sl (.one I))])), (.ow (.one I)), (.ow Z25), (.sl (.cons I (.cons I (.cons I (.cons I Z19))))), J, J]) [1, 2, 3, 4, 5, 14, 15, 62, 63, 64] [.ret Z27 [10, 11, 12], .exit 0 (shps [(.ow (.one I)), (.ow Z25)]) [14, 15]] gbe_506F) :: []
theorem gbec1 : CutsOk tP gbeC gbeB gbek1 :=
 CutsOk.loop tM rfl gbeL .nil _ _ _ _ _ (by kernel_rfl) (by kernel_rfl) fun x => by kernel_rfl
def gbeE : Entry := ⟨22, gbea, (.tup Z27), gbeo, fun x => gbe x.1.1 x.1.2.1 x.1.2.2.1 x.1.2.2.2.1 x.1.2.2.2.2.1 x.1.2.2.2.2.2.1 x.1.2.2.2.2.2.2.1 x.1.2.2.2.2.2.2.2.1 x.2.1 x.2.2.1 x.2.2.2.1 x.2.2.2.2.1⟩
theorem gbeK : EntryOk tP gbeE :=
 entry_ok tM rfl gbeL func22 (by kernel_rfl) (by kernel_rfl) gbec1 [] _ _ _ _ (fun x => by kernel_rfl) fun x => by kernel_rfl
def gbfC : Ctx := ⟨tP, 102, 0, [(1, [8, 9]), (3, [11, 12, 13]), (6, [18, 19, 20]), (7, [21]), (9, [38]), (10, [39, 40, 41, 42, 43, 44, 45, 46, 47, 48, 49, 50, 51, 52, 53, 54, 55, 56, 57, 58]), (11, [60, 61, 62, 63, 64, 65, 66, 67]), (12, [69]), (13, [70, 71, 72, 73, 74, 75, 76, 77, 78]), (14, [80]), (15, [81, 82, 83, 84, 85, 86, 87, 88, 89, 90, 91, 92, 93, 94]), (8, [23, 24, 25, 26, 27, 28, 29, 30, 31, 32, 33, 34, 35, 36]), (16, [95]), (17, [96, 97, 98, 99, 100, 101])], [], []⟩
def gbfB := bd f64
def gbfa : Shps := (shps [(.sl (.cons I (.cons I Z19))), (.sl (.one I))])
def gbfo : Shps := (shps [])
theorem gbfL : Ok [gaqE] := kc gaqK k0
def gbfk1 : Cs := (122, loopOf (shps [(.sl (.one I)), (.ow (.one I)), (.sl (.cons I (.cons I Z19))), J, J]) [1, 5, 14, 15, 16] [.exit 0 (shps [(.ow (.one I))]) [5]] gbf_122F) :: []
theorem gbfc1 : CutsOk tP gbfC gbfB gbfk1 :=
 CutsOk.loop tM rfl gbfL .nil _ _ _ _ _ (by kernel_rfl) (by kernel_rfl) fun x => by kernel_rfl
def gbfE : Entry := ⟨64, gbfa, J, gbfo, fun x => gbf x.1 x.2.1⟩
theorem gbfK : EntryOk tP gbfE :=
 entry_ok tM rfl gbfL func64 (by kernel_rfl) (by kernel_rfl) gbfc1 [] _ _ _ _ (fun x => by kernel_rfl) fun x => by kernel_rfl
def gbgC : Ctx := ⟨tP, 93, 0, [(1, [18, 19]), (2, [20]), (3, [22]), (4, [23, 24, 25, 26, 27, 28, 29, 30, 31, 32, 33, 34, 35]), (6, [37, 38, 39, 40, 41]), (8, [43, 44]), (10, [45]), (12, [50, 51, 52]), (13, [53, 54, 55]), (14, [56, 57, 58, 59]), (15, [60]), (16, [62, 63, 64, 65]), (17, [67, 68, 69, 70]), (18, [71, 72, 73]), (19, [74, 75, 76, 77]), (20, [79, 80, 81, 82, 83, 84, 85]), (21, [86, 87, 88, 89]), (22, [90]), (23, [91, 92])], [], []⟩
def gbgB := bd f29
def gbga : Shps := (shps [(.agg (shps [(.sl Z15), (.sl (.cons I (.cons I (.cons I (.cons I (.cons .bool (.cons .bool (.cons I (.cons I Z19))))))))), (.sl (.cons I Z30)), (.sl (.cons I Z8)), (.sl (.cons I (.cons I (.cons I (.cons I (.cons I (.cons I Z19))))))), (.sl (.cons I (.cons I (.cons I (.cons I Z19))))), (.sl (.cons (.sl (.cons I (.cons I Z19))) (.cons I Z9))), (.sl (.one I))])), (.sl (.one I)), (.sl Z25), J])
def gbgo : Shps := (shps [])
theorem gbgL : Ok [gatE, gbfE] := kc gatK (kc gbfK k0)
def gbgk1 : Cs := (1018, loopOf (shps [(.sl (.one I)), J, (.ow Z25), (.ow (.one I)), (.sl (.cons (.sl (.cons I (.cons I Z19))) (.cons I Z9))), J, J]) [1, 3, 12, 13, 46, 47, 48] [.exit 0 Z29 [12, 13]] gbg_1018F) :: []
theorem gbgc1 : CutsOk tP gbgC gbgB gbgk1 :=
 CutsOk.loop tM rfl gbgL .nil _ _ _ _ _ (by kernel_rfl) (by kernel_rfl) fun x => by kernel_rfl
def gbgE : Entry := ⟨29, gbga, (.tup Z28), gbgo, fun x => gbg x.1.1 x.1.2.1 x.1.2.2.1 x.1.2.2.2.1 x.1.2.2.2.2.1 x.1.2.2.2.2.2.1 x.1.2.2.2.2.2.2.1 x.1.2.2.2.2.2.2.2.1 x.2.1 x.2.2.1 x.2.2.2.1⟩
theorem gbgK : EntryOk tP gbgE :=
 entry_ok tM rfl gbgL func29 (by kernel_rfl) (by kernel_rfl) gbgc1 [] _ _ _ _ (fun x => by kernel_rfl) fun x => by kernel_rfl
def gbhC : Ctx := ⟨tP, 26, 0, [(1, [6, 7, 8, 9]), (4, [11, 12, 13]), (6, [17, 18, 19, 20, 21, 22, 23, 24]), (5, [15, 16])], [], []⟩
def gbhB := bd f24
def gbha : Shps := Z3
def gbho : Shps := (shps [])
def gbhk1 : Cs := (58, loopOf (shps [(.sl (.one I)), (.sl (.one I)), J]) [0, 1, 5] [.ret Z22 [4], .exit 0 (shps []) []] gbh_58F) :: []
theorem gbhc1 : CutsOk tP gbhC gbhB gbhk1 :=
 CutsOk.loop tM rfl k0 .nil _ _ _ _ _ (by kernel_rfl) (by kernel_rfl) fun x => by kernel_rfl
def gbhE : Entry := ⟨24, gbha, .bool, gbho, fun x => gbh x.1 x.2.1⟩
theorem gbhK : EntryOk tP gbhE :=
 entry_ok tM rfl k0 func24 (by kernel_rfl) (by kernel_rfl) gbhc1 [] _ _ _ _ (fun x => by kernel_rfl) fun x => by kernel_rfl
def gbiC : Ctx := ⟨tP, 139, 0, [(1, [2, 17, 18, 19, 20, 21]), (2, [22, 23]), (3, [24, 25]), (4, [26, 27, 28, 29, 30, 31, 32, 33, 34, 35]), (5, [9, 36, 37, 38, 39, 40, 41, 42, 43, 44, 45, 46]), (6, [47, 48, 49, 50, 51, 52, 53, 54, 55]), (7, [56, 57, 58, 59, 60, 61, 62, 63, 64]), (8, [65, 66, 67, 68, 69, 70, 71, 72, 73, 74, 75, 76, 77, 78, 79, 80, 81, 82, 83, 84, 85, 86, 87, 88, 89, 90, 91, 92, 93, 94, 95, 96, 97, 98, 99, 100, 101, 102, 103, 104, 105, 106, 107, 108, 109, 110, 111, 112, 113, 114, 115, 116, 117, 118, 119, 120, 121, 122, 123, 124, 125, 126, 127, 128, 129, 130, 131, 132, 133, 134, 135, 136, 137, 138])], [], []⟩
def gbiB := bd f10
def gbia : Shps := (shps [])
def gbio : Shps := (shps [])
theorem gbiL : Ok [gaaE, gadE, gbeE, gbgE, gatE, gbhE] := kc gaaK (kc gadK (kc gbeK (kc gbgK (kc gatK (kc gbhK k0)))))
def gbiE : Entry := ⟨10, gbia, .bool, gbio, fun x => gbi⟩
theorem gbiK : EntryOk tP gbiE :=
 entry_ok tM rfl gbiL func10 (by kernel_rfl) (by kernel_rfl) (CutsOk.nil (C := gbiC) (root := gbiB)) [] _ _ _ _ (fun x => by kernel_rfl) fun x => by kernel_rfl
def gbjC : Ctx := ⟨tP, 10, 0, [(1, [3, 4, 5, 6, 7, 8, 9])], [], []⟩
def gbjB := bd f11
def gbja : Shps := (shps [(.sl Z20)])
def gbjo : Shps := (shps [])
def gbjE : Entry := ⟨11, gbja, (.box Z7), gbjo, fun x => gbj x.1⟩
theorem gbjK : EntryOk tP gbjE :=
 entry_ok tM rfl k0 func11 (by kernel_rfl) (by kernel_rfl) (CutsOk.nil (C := gbjC) (root := gbjB)) [] _ _ _ _ (fun x => by kernel_rfl) fun x => by kernel_rfl
def gbkC : Ctx := ⟨tP, 77, 1, [(1, [6, 7, 8, 9, 10, 11, 12, 13, 14, 15, 16, 17, 18]), (3, [20, 21, 22, 23, 24, 25, 26]), (4, [27, 28, 29, 30, 31, 32, 33, 34, 35, 36, 37, 38]), (5, [39, 40, 41, 42, 43, 44, 45, 46, 47, 48, 49, 50, 51]), (6, [53, 54, 55, 56, 57, 58, 59, 60, 61, 62, 63, 64, 65, 66]), (7, [67, 68, 69, 70, 71, 72, 73]), (8, [74, 75, 76])], [], []⟩
def gbkB := bd f37
def gbka : Shps := (shps [(.box Z2), J])
def gbko : Shps := (shps [(.box Z2)])
def gbkk1 : Cs := (63, cutOf (shps [(.box Z2), J, J]) [0, 1, 5] [.ret (shps [(.box Z2), J]) [0, 4]] fun x => gbk_63 x.1.1 x.1.2.1 x.2.1 x.2.2.1) :: []
theorem gbkc1 : CutsOk tP gbkC gbkB gbkk1 :=
 CutsOk.cut tM rfl k0 .nil _ _ _ _ _ (by kernel_rfl) fun x => by kernel_rfl
def gbkE : Entry := ⟨37, gbka, J, gbko, fun x => gbk x.1.1 x.1.2.1 x.2.1⟩
theorem gbkK : EntryOk tP gbkE :=
 entry_ok tM rfl k0 func37 (by kernel_rfl) (by kernel_rfl) gbkc1 [] _ _ _ _ (fun x => by kernel_rfl) fun x => by kernel_rfl
def gblC : Ctx := ⟨tP, 11, 1, [(1, [5, 6, 7, 8, 9, 10])], [], []⟩
def gblB := bd f27
def gbla : Shps := (shps [(.box Z2), J])
def gblo : Shps := (shps [(.box Z2)])
theorem gblL : Ok [gbkE] := kc gbkK k0
def gblE : Entry := ⟨27, gbla, .bool, gblo, fun x => gbl x.1.1 x.1.2.1 x.2.1⟩
theorem gblK : EntryOk tP gblE :=
 entry_ok tM rfl gblL func27 (by kernel_rfl) (by kernel_rfl) (CutsOk.nil (C := gblC) (root := gblB)) [] _ _ _ _ (fun x => by kernel_rfl) fun x => by kernel_rfl
def gbmC : Ctx := ⟨tP, 15, 1, [(1, [7, 8, 9, 10, 11, 12, 13, 14])], [], []⟩
def gbmB := bd f28
def gbma : Shps := (shps [(.box Z2), J, J])
def gbmo : Shps := (shps [(.box Z2)])
theorem gbmL : Ok [gbkE] := kc gbkK k0
def gbmE : Entry := ⟨28, gbma, J, gbmo, fun x => gbm x.1.1 x.1.2.1 x.2.1 x.2.2.1⟩
theorem gbmK : EntryOk tP gbmE :=
 entry_ok tM rfl gbmL func28 (by kernel_rfl) (by kernel_rfl) (CutsOk.nil (C := gbmC) (root := gbmB)) [] _ _ _ _ (fun x => by kernel_rfl) fun x => by kernel_rfl
def gbnC : Ctx := ⟨tP, 42, 1, [(1, [8, 9, 10, 11, 12, 13, 14, 15, 16, 17, 18, 19, 20]), (2, [21, 22, 23, 24, 25, 26, 27, 28]), (3, [29, 30, 31, 32]), (4, [33, 34, 35, 36, 37, 38, 39, 40]), (5, [41])], [], []⟩
def gbnB := bd f71
def gbna : Shps := (shps [(.box Z2), J, J])
def gbno : Shps := (shps [(.box Z2)])
theorem gbnL : Ok [gbmE, gbkE] := kc gbmK (kc gbkK k0)
def gbnE : Entry := ⟨71, gbna, (.agg Z1), gbno, fun x => gbn x.1.1 x.1.2.1 x.2.1 x.2.2.1⟩
theorem gbnK : EntryOk tP gbnE :=
 entry_ok tM rfl gbnL func71 (by kernel_rfl) (by kernel_rfl) (CutsOk.nil (C := gbnC) (root := gbnB)) [] _ _ _ _ (fun x => by kernel_rfl) fun x => by kernel_rfl
def gboC : Ctx := ⟨tP, 40, 1, [(1, [6, 7, 8, 9, 10, 11]), (2, [12, 13]), (3, [14]), (5, [18, 19, 20, 21, 22, 23]), (6, [24, 25, 26, 27, 28, 29, 30, 31, 32, 33, 34, 35, 36, 37, 38]), (4, [16, 17]), (7, [39])], [], []⟩
def gboB := bd f108
def gboa : Shps := (shps [(.box Z2)])
def gboo : Shps := (shps [(.box Z2)])
theorem gboL : Ok [gbmE, gbkE] := kc gbmK (kc gbkK k0)
def gbok1 : Cs := (58, loopOf (shps [(.box Z2), (.ow Z19), J]) [0, 3, 4] [.exit 0 (shps [(.box Z2), (.ow Z19)]) [0, 3]] gbo_58F) :: []
theorem gboc1 : CutsOk tP gboC gboB gbok1 :=
 CutsOk.loop tM rfl gboL .nil _ _ _ _ _ (by kernel_rfl) (by kernel_rfl) fun x => by kernel_rfl
def gboE : Entry := ⟨108, gboa, (.ow Z19), gboo, fun x => gbo x.1.1 x.1.2.1⟩
theorem gboK : EntryOk tP gboE :=
 entry_ok tM rfl gboL func108 (by kernel_rfl) (by kernel_rfl) gboc1 [] _ _ _ _ (fun x => by kernel_rfl) fun x => by kernel_rfl
def gbpC : Ctx := ⟨tP, 36, 1, [(1, [7, 8, 9, 10, 11]), (2, [12, 13]), (3, [14]), (5, [18, 19, 20, 21, 22, 23, 24, 25, 26, 27, 28, 29, 30, 31, 32, 33, 34]), (4, [16, 17]), (6, [35])], [], []⟩
def gbpB := bd f109
def gbpa : Shps := (shps [(.box Z2), J])
def gbpo : Shps := (shps [(.box Z2)])
theorem gbpL : Ok [gbmE] := kc gbmK k0
def gbpk1 : Cs := (58, loopOf (shps [(.box Z2), (.box Z12), (.box Z12), J]) [0, 4, 5, 6] [.exit 0 (shps [(.box Z2), (.box Z12), (.box Z12)]) [0, 4, 5]] gbp_58F) :: []
theorem gbpc1 : CutsOk tP gbpC gbpB gbpk1 :=
 CutsOk.loop tM rfl gbpL .nil _ _ _ _ _ (by kernel_rfl) (by kernel_rfl) fun x => by kernel_rfl
def gbpE : Entry := ⟨109, gbpa, (.agg Z11), gbpo, fun x => gbp x.1.1 x.1.2.1 x.2.1⟩
theorem gbpK : EntryOk tP gbpE :=
 entry_ok tM rfl gbpL func109 (by kernel_rfl) (by kernel_rfl) gbpc1 [4] _ _ _ _ (fun x => by kernel_rfl) fun x => by kernel_rfl
def gbqC : Ctx := ⟨tP, 88, 3, [(2, [10, 11, 12, 13, 14, 15]), (3, [16, 17]), (4, [18, 19, 20, 21, 22]), (6, [26, 27, 28, 29, 30, 31, 32, 33, 34, 35, 36, 37, 38, 39, 40, 41, 42, 43, 44]), (7, [45, 46, 47, 48, 49, 50, 51]), (5, [24, 25]), (8, [52, 53]), (9, [54, 55, 56, 57, 58]), (11, [62, 63, 64, 65, 66]), (12, [67, 68, 69, 70, 71, 72, 73, 74, 75, 76]), (13, [77, 78, 79, 80, 81, 82, 83, 84, 85, 86]), (10, [60, 61]), (14, [87])], [], []⟩
def gbqB := bd f72
def gbqa : Shps := (shps [(.box Z2), (.box (shps [(.ow Z15), (.ow (.cons I (.cons I (.cons I (.cons I (.cons .bool (.cons .bool (.cons I (.cons I Z19))))))))), (.ow (.cons I Z30)), (.ow (.cons I Z8))]))])
def gbqo : Shps := (shps [(.box Z2), (.box (shps [(.ow Z15), (.ow (.cons I (.cons I (.cons I (.cons I (.cons .bool (.cons .bool (.cons I (.cons I Z19))))))))), (.ow (.cons I Z30)), (.ow (.cons I Z8))]))])
theorem gbqL : Ok [gbkE, gblE, gboE, gbpE] := kc gbkK (kc gblK (kc gboK (kc gbpK k0)))
def gbqk1 : Cs := (122, loopOf (shps [(.box Z2), (.box (shps [(.ow Z15), (.ow (.cons I (.cons I (.cons I (.cons I (.cons .bool (.cons .bool (.cons I (.cons I Z19))))))))), (.ow (.cons I Z30)), (.ow (.cons I Z8))])), (.box Z4), (.box Z4), J, J]) [0, 1, 4, 5, 6, 7] [.exit 0 (shps [(.box Z2), (.box (shps [(.ow Z15), (.ow (.cons I (.cons I (.cons I (.cons I (.cons .bool (.cons .bool (.cons I (.cons I Z19))))))))), (.ow (.cons I Z30)), (.ow (.cons I Z8))])), (.box Z4), (.box Z4), J]) [0, 1, 4, 5, 6]] gbq_122F) :: []
theorem gbqc1 : CutsOk tP gbqC gbqB gbqk1 :=
 CutsOk.loop tM rfl gbqL .nil _ _ _ _ _ (by kernel_rfl) (by kernel_rfl) fun x => by kernel_rfl
def gbqk2 : Cs := (250, loopOf (shps [(.box Z2), (.box (shps [(.ow Z15), (.ow (.cons I (.cons I (.cons I (.cons I (.cons .bool (.cons .bool (.cons I (.cons I Z19))))))))), (.ow (.cons I Z30)), (.ow (.cons I Z8))])), (.box Z4), (.box Z4), J, J]) [0, 1, 4, 5, 6, 8] [.exit 2 (shps [(.box Z2), (.box (shps [(.ow Z15), (.ow (.cons I (.cons I (.cons I (.cons I (.cons .bool (.cons .bool (.cons I (.cons I Z19))))))))), (.ow (.cons I Z30)), (.ow (.cons I Z8))])), (.box Z4), (.box Z4)]) [0, 1, 4, 5]] gbq_250F) :: gbqk1
theorem gbqc2 : CutsOk tP gbqC gbqB gbqk2 :=
 CutsOk.loop tM rfl gbqL gbqc1 _ _ _ _ _ (by kernel_rfl) (by kernel_rfl) fun x => by kernel_rfl
def gbqE : Entry := ⟨72, gbqa, (.agg Z4), gbqo, fun x => gbq x.1.1 x.1.2.1 x.2.1.1 x.2.1.2.1 x.2.1.2.2.1 x.2.1.2.2.2.1⟩
theorem gbqK : EntryOk tP gbqE :=
 entry_ok tM rfl gbqL func72 (by kernel_rfl) (by kernel_rfl) gbqc2 [] _ _ _ _ (fun x => by kernel_rfl) fun x => by kernel_rfl
def gbrC : Ctx := ⟨tP, 71, 0, [(1, [7, 8, 9, 10, 11, 12, 13, 14, 15, 16, 17, 18, 19, 20]), (2, [22]), (3, [23]), (4, [25, 26, 27, 28, 29, 30, 31, 32, 33, 34, 35]), (5, [36, 37, 38, 39, 40, 41, 42, 43, 44]), (7, [45, 46, 47, 48]), (9, [52, 53, 54, 55, 56, 57, 58, 59, 60, 61, 62, 63, 64, 65, 66, 67, 68, 69]), (8, [50, 51]), (10, [70])], [], []⟩
def gbrB := bd f110
def gbra : Shps := (shps [(.agg Z11), J])
def gbro : Shps := (shps [])
def gbrk1 : Cs := (250, loopOf (shps [(.box Z11), (.box (shps [J, J])), (.box (shps [J, J])), J]) [2, 4, 5, 6] [.exit 0 (shps [(.box (shps [J, J])), (.box (shps [J, J]))]) [4, 5]] gbr_250F) :: []
theorem gbrc1 : CutsOk tP gbrC gbrB gbrk1 :=
 CutsOk.loop tM rfl k0 .nil _ _ _ _ _ (by kernel_rfl) (by kernel_rfl) fun x => by kernel_rfl
def gbrE : Entry := ⟨110, gbra, (.agg (shps [J, J])), gbro, fun x => gbr x.1.1 x.1.2.1 x.1.2.2.1 x.2.1⟩
theorem gbrK : EntryOk tP gbrE :=
 entry_ok tM rfl k0 func110 (by kernel_rfl) (by kernel_rfl) gbrc1 [] _ _ _ _ (fun x => by kernel_rfl) fun x => by kernel_rfl
def gbsC : Ctx := ⟨tP, 16, 0, [(1, [6, 7, 8]), (2, [9, 10, 11]), (3, [13, 14]), (4, [15])], [], []⟩
def gbsB := bd f89
def gbsa : Shps := (shps [J, J])
def gbso : Shps := (shps [])
def gbsE : Entry := ⟨89, gbsa, J, gbso, fun x => gbs x.1 x.2.1⟩
theorem gbsK : EntryOk tP gbsE :=
 entry_ok tM rfl k0 func89 (by kernel_rfl) (by kernel_rfl) (CutsOk.nil (C := gbsC) (root := gbsB)) [] _ _ _ _ (fun x => by kernel_rfl) fun x => by kernel_rfl
def gbtC : Ctx := ⟨tP, 10, 0, [(1, [5, 6, 7, 8, 9])], [], []⟩
def gbtB := bd f90
def gbta : Shps := (shps [J, J])
def gbto : Shps := (shps [])
theorem gbtL : Ok [gbsE] := kc gbsK k0
def gbtE : Entry := ⟨90, gbta, J, gbto, fun x => gbt x.1 x.2.1⟩
theorem gbtK : EntryOk tP gbtE :=
 entry_ok tM rfl gbtL func90 (by kernel_rfl) (by kernel_rfl) (CutsOk.nil (C := gbtC) (root := gbtB)) [] _ _ _ _ (fun x => by kernel_rfl) fun x => by kernel_rfl
def gbuC : Ctx := ⟨tP, 106, 0, [(1, [11, 12, 13]), (2, [14, 15, 16, 17, 18, 19]), (3, [21, 22, 23, 24, 25, 26, 27, 28, 29, 30, 31]), (4, [32, 33, 34, 35, 36, 37, 38, 39]), (5, [41, 42, 43, 44, 45, 46, 47, 48, 49, 50, 51, 52, 53, 54, 55]), (7, [56, 57, 58, 59, 60, 61, 62, 63]), (8, [65, 66]), (9, [67, 68, 69, 70, 71, 72, 73, 74, 75, 76, 77]), (10, [78, 79, 80, 81, 82, 83, 84, 85, 86, 87, 88, 89, 90, 91, 92]), (11, [93, 94, 95, 96, 97, 98, 99, 100, 101, 102, 103, 104, 105])], [], []⟩
def gbuB := bd f126
def gbua : Shps := (shps [(.agg Z23), J])
def gbuo : Shps := (shps [])
theorem gbuL : Ok [gbsE, gbtE] := kc gbsK (kc gbtK k0)
def gbuk1 : Cs := (252, loopOf (shps [J, (.box Z23), (.box (shps [J, J])), J]) [1, 2, 4, 6] [.exit 0 (shps [J, (.box Z23), (.box (shps [J, J])), J]) [1, 2, 4, 6]] gbu_252F) :: []
theorem gbuc1 : CutsOk tP gbuC gbuB gbuk1 :=
 CutsOk.loop tM rfl gbuL .nil _ _ _ _ _ (by kernel_rfl) (by kernel_rfl) fun x => by kernel_rfl
def gbuE : Entry := ⟨126, gbua, (.agg (shps [J, J])), gbuo, fun x => gbu x.1.1 x.1.2.1 x.1.2.2.1 x.1.2.2.2.1 x.2.1⟩
theorem gbuK : EntryOk tP gbuE :=
 entry_ok tM rfl gbuL func126 (by kernel_rfl) (by kernel_rfl) gbuc1 [] _ _ _ _ (fun x => by kernel_rfl) fun x => by kernel_rfl
def gbvC : Ctx := ⟨tP, 23, 0, [(2, [9, 10, 11, 12]), (3, [13, 14, 15, 16, 17, 18, 19]), (4, [20, 21, 22])], [], []⟩
def gbvB := bd f122
def gbva : Shps := (shps [(.agg Z23), .bool, J])
def gbvo : Shps := (shps [])
theorem gbvL : Ok [gbuE] := kc gbuK k0
def gbvE : Entry := ⟨122, gbva, (.agg (shps [J, J])), gbvo, fun x => gbv x.1.1 x.1.2.1 x.1.2.2.1 x.1.2.2.2.1 x.2.1 x.2.2.1⟩
theorem gbvK : EntryOk tP gbvE :=
 entry_ok tM rfl gbvL func122 (by kernel_rfl) (by kernel_rfl) (CutsOk.nil (C := gbvC) (root := gbvB)) [] _ _ _ _ (fun x => by kernel_rfl) fun x => by kernel_rfl
def gbwC : Ctx := ⟨tP, 45, 0, [(2, [11]), (3, [12]), (4, [14]), (5, [15, 16, 17, 18, 19]), (6, [21]), (7, [22, 23, 24, 25, 26, 27]), (8, [28, 29, 30, 31, 32, 33]), (9, [34, 35, 36, 37, 38, 39, 40, 41, 42, 43, 44])], [], []⟩
def gbwB := bd f111
def gbwa : Shps := (shps [(.agg Z23), J, J])
def gbwo : Shps := (shps [])
theorem gbwL : Ok [gbvE] := kc gbvK k0
def gbwE : Entry := ⟨111, gbwa, (.agg (shps [J, J])), gbwo, fun x => gbw x.1.1 x.1.2.1 x.1.2.2.1 x.1.2.2.2.1 x.2.1 x.2.2.1⟩
theorem gbwK : EntryOk tP gbwE :=
 entry_ok tM rfl gbwL func111 (by kernel_rfl) (by kernel_rfl) (CutsOk.nil (C := gbwC) (root := gbwB)) [] _ _ _ _ (fun x => by kernel_rfl) fun x => by kernel_rfl
def gbxC : Ctx := ⟨tP, 166, 3, [(2, [15, 16, 17, 18, 19, 20, 21]), (4, [25, 26, 27, 28, 29, 30, 31]), (5, [32, 33, 34, 35, 36]), (6, [37, 38, 39, 40, 41, 42, 43, 44, 45, 46, 47, 48, 49, 50, 51, 52, 53, 54, 55, 56]), (8, [57, 58, 59, 60, 61, 62]), (10, [66, 67, 68, 69, 70, 71, 72, 73, 74]), (11, [76, 77, 78, 79, 80, 81, 82, 83, 84, 85, 86, 87, 88, 89, 90, 91]), (9, [64, 65]), (12, [92, 93, 94, 95, 96, 97, 98, 99, 100, 101, 102, 103, 104, 105, 106, 107, 108, 109, 110, 111, 112, 113, 114, 115, 116, 117]), (14, [118, 119, 120, 121, 122, 123]), (16, [127, 128, 129, 130, 131, 132, 133, 134, 135]), (17, [137, 138, 139, 140, 141, 142, 143, 144, 145, 146, 147, 148, 149, 150, 151, 152, 153]), (15, [125, 126]), (18, [154, 155, 156, 157, 158, 159, 160, 161, 162, 163, 164, 165]), (3, [23, 24])], [], []⟩
def gbxB := bd f73
def gbxa : Shps := (shps [(.box Z2), (.box (shps [(.ow Z15), (.ow (.cons I (.cons I (.cons I (.cons I (.cons .bool (.cons .bool (.cons I (.cons I Z19))))))))), (.ow (.cons I Z30)), (.ow (.cons I Z8))])), (.agg Z5), (.agg Z5)])
def gbxo : Shps := (shps [(.box Z2), (.box (shps [(.ow Z15), (.ow (.cons I (.cons I (.cons I (.cons I (.cons .bool (.cons .bool (.cons I (.cons I Z19))))))))), (.ow (.cons I Z30)), (.ow (.cons I Z8))]))])
theorem gbxL : Ok [gbkE, gbrE, gbwE] := kc gbkK (kc gbrK (kc gbwK k0))
def gbxk1 : Cs := (14650, loopOf (shps [(.box Z2), (.box (shps [(.ow Z15), (.ow (.cons I (.cons I (.cons I (.cons I (.cons .bool (.cons .bool (.cons I (.cons I Z19))))))))), (.ow (.cons I Z30)), (.ow (.cons I Z8))])), (.box Z5), (.box Z5), J, (.rpe 1 (some 1) 0), J, J, J]) [0, 1, 6, 7, 8, 9, 10, 11, 12] [.exit 2 (shps [(.box Z2), (.box (shps [(.ow Z15), (.ow (.cons I (.cons I (.cons I (.cons I (.cons .bool (.cons .bool (.cons I (.cons I Z19))))))))), (.ow (.cons I Z30)), (.ow (.cons I Z8))])), (.box Z5), (.box Z5), J, (.rpe 1 (some 1) 0), J, J]) [0, 1, 6, 7, 8, 9, 10, 11]] gbx_14650F) :: []
theorem gbxc1 : CutsOk tP gbxC gbxB gbxk1 :=
 CutsOk.loop tM rfl gbxL .nil _ _ _ _ _ (by kernel_rfl) (by kernel_rfl) fun x => by kernel_rfl
def gbxk2 : Cs := (58618, loopOf (shps [(.box Z2), (.box (shps [(.ow Z15), (.ow (.cons I (.cons I (.cons I (.cons I (.cons .bool (.cons .bool (.cons I (.cons I Z19))))))))), (.ow (.cons I Z30)), (.ow (.cons I Z8))])), (.box Z5), (.box Z5), J, (.rpe 1 (some 1) 0), J, J, J]) [0, 1, 6, 7, 8, 9, 10, 13, 14] [.exit 4 (shps [(.box Z2), (.box (shps [(.ow Z15), (.ow (.cons I (.cons I (.cons I (.cons I (.cons .bool (.cons .bool (.cons I (.cons I Z19))))))))), (.ow (.cons I Z30)), (.ow (.cons I Z8))])), (.box Z5), (.box Z5), J, (.rpe 1 (some 1) 0), J]) [0, 1, 6, 7, 8, 9, 13]] gbx_58618F) :: gbxk1
theorem gbxc2 : CutsOk tP gbxC gbxB gbxk2 :=
 CutsOk.loop tM rfl gbxL gbxc1 _ _ _ _ _ (by kernel_rfl) (by kernel_rfl) fun x => by kernel_rfl
def gbxk3 : Cs := (14, loopOf (shps [(.box Z2), (.box (shps [(.ow Z15), (.ow (.cons I (.cons I (.cons I (.cons I (.cons .bool (.cons .bool (.cons I (.cons I Z19))))))))), (.ow (.cons I Z30)), (.ow (.cons I Z8))])), (.box Z5), (.box Z5), J]) [0, 1, 6, 7, 8] [.exit 0 (shps [(.box Z2), (.box (shps [(.ow Z15), (.ow (.cons I (.cons I (.cons I (.cons I (.cons .bool (.cons .bool (.cons I (.cons I Z19))))))))), (.ow (.cons I Z30)), (.ow (.cons I Z8))]))]) [0, 1]] gbx_14F) :: gbxk2
theorem gbxc3 : CutsOk tP gbxC gbxB gbxk3 :=
 CutsOk.loop tM rfl gbxL gbxc2 _ _ _ _ _ (by kernel_rfl) (by kernel_rfl) fun x => by kernel_rfl
def gbxE : Entry := ⟨73, gbxa, (.tup (shps [])), gbxo, fun x => gbx x.1.1 x.1.2.1 x.2.1.1 x.2.1.2.1 x.2.1.2.2.1 x.2.1.2.2.2.1 x.2.2.1.1 x.2.2.1.2.1 x.2.2.2.1.1 x.2.2.2.1.2.1⟩
theorem gbxK : EntryOk tP gbxE :=
 entry_ok tM rfl gbxL func73 (by kernel_rfl) (by kernel_rfl) gbxc3 [] _ _ _ _ (fun x => by kernel_rfl) fun x => by kernel_rfl
def gbyC : Ctx := ⟨tP, 53, 1, [(0, [4]), (3, [12, 13, 14, 15]), (5, [19, 20, 21, 22, 23]), (6, [24]), (8, [26, 27, 28, 29, 30, 31]), (4, [17, 18]), (10, [32, 33, 34, 35]), (12, [39, 40, 41, 42, 43]), (13, [44]), (15, [46, 47, 48, 49, 50, 51]), (11, [37, 38]), (16, [52])], [], []⟩
def gbyB := bd f74
def gbya : Shps := (shps [(.box Z2), (.agg (shps [(.sl Z15), (.sl (.cons I (.cons I (.cons I (.cons I (.cons .bool (.cons .bool (.cons I (.cons I Z19))))))))), (.sl (.cons I Z30)), (.sl (.cons I Z8))])), (.agg Z3)])
def gbyo : Shps := (shps [(.box Z2)])
theorem gbyL : Ok [gblE] := kc gblK k0
def gbyk1 : Cs := (3731, cutOf (shps [(.box Z2), (.box Z3), (.box Z4), (.box Z4), J, J]) [0, 5, 6, 7, 8, 9] [.norm (shps [(.box Z2), (.box Z3), (.box Z4), (.box Z4), J]) [0, 5, 6, 7, 8]] fun x => gby_3731 x.1.1 x.1.2.1 x.2.1.1 x.2.1.2.1 x.2.2.1.1 x.2.2.1.2.1 x.2.2.2.1.1 x.2.2.2.1.2.1 x.2.2.2.2.1 x.2.2.2.2.2.1) :: []
theorem gbyc1 : CutsOk tP gbyC gbyB gbyk1 :=
 CutsOk.cut tM rfl gbyL .nil _ _ _ _ _ (by kernel_rfl) fun x => by kernel_rfl
def gbyk2 : Cs := (58, loopOf (shps [(.box Z2), (.box Z3), (.box Z4), (.box Z4), J]) [0, 5, 6, 7, 8] [.exit 0 (shps [(.box Z2), (.box Z3), (.box Z4), (.box Z4)]) [0, 5, 6, 7]] gby_58F) :: gbyk1
theorem gbyc2 : CutsOk tP gbyC gbyB gbyk2 :=
 CutsOk.loop tM rfl gbyL gbyc1 _ _ _ _ _ (by kernel_rfl) (by kernel_rfl) fun x => by kernel_rfl
def gbyk3 : Cs := (7827, cutOf (shps [(.box Z2), (.box Z3), (.box Z4), (.box Z4), J, J]) [0, 5, 6, 7, 10, 11] [.norm (shps [(.box Z2), (.box Z3), (.box Z4), (.box Z4), J]) [0, 5, 6, 7, 10]] fun x => gby_7827 x.1.1 x.1.2.1 x.2.1.1 x.2.1.2.1 x.2.2.1.1 x.2.2.1.2.1 x.2.2.2.1.1 x.2.2.2.1.2.1 x.2.2.2.2.1 x.2.2.2.2.2.1) :: gbyk2
theorem gbyc3 : CutsOk tP gbyC gbyB gbyk3 :=
 CutsOk.cut tM rfl gbyL gbyc2 _ _ _ _ _ (by kernel_rfl) fun x => by kernel_rfl
def gbyk4 : Cs := (122, loopOf (shps [(.box Z2), (.box Z3), (.box Z4), (.box Z4), J]) [0, 5, 6, 7, 10] [.exit 2 (shps [(.box Z2), (.box Z4), (.box Z4)]) [0, 6, 7]] gby_122F) :: gbyk3
theorem gbyc4 : CutsOk tP gbyC gbyB gbyk4 :=
 CutsOk.loop tM rfl gbyL gbyc3 _ _ _ _ _ (by kernel_rfl) (by kernel_rfl) fun x => by kernel_rfl
def gbyE : Entry := ⟨74, gbya, (.agg Z4), gbyo, fun x => gby x.1.1 x.1.2.1 x.2.1.1 x.2.1.2.1 x.2.1.2.2.1 x.2.1.2.2.2.1 x.2.2.1.1 x.2.2.1.2.1⟩
theorem gbyK : EntryOk tP gbyE :=
 entry_ok tM rfl gbyL func74 (by kernel_rfl) (by kernel_rfl) gbyc4 [] _ _ _ _ (fun x => by kernel_rfl) fun x => by kernel_rfl
def gbzC : Ctx := ⟨tP, 189, 1, [(1, [20, 21, 22, 23]), (2, [24]), (3, [26, 27, 28, 29, 30, 31, 32, 33]), (4, [34, 35, 36, 37]), (5, [38, 39]), (6, [40]), (8, [44, 45, 46, 47, 48, 49, 50, 51, 52, 53, 54]), (7, [42, 43]), (9, [55, 56, 57, 58]), (10, [59, 60, 61]), (11, [62]), (12, [63, 64]), (14, [68, 69, 70, 71, 72, 73]), (13, [66, 67]), (15, [74, 75]), (16, [76]), (17, [78, 79]), (18, [80]), (20, [84, 85, 86]), (21, [87, 88, 89, 90, 91, 92, 93, 94, 95, 96, 97, 98]), (22, [99, 100, 101]), (23, [102, 103]), (24, [104]), (26, [106, 107, 108, 109, 110, 111, 112, 113, 114, 115, 116, 117, 118, 119]), (27, [120, 121, 122, 123, 124, 125, 126, 127]), (28, [128, 129, 130, 131, 132, 133, 134, 135]), (19, [82, 83]), (29, [136]), (30, [137, 138]), (32, [142, 143, 144, 145, 146, 147, 148, 149, 150, 151, 152]), (33, [153]), (34, [155, 156, 157, 158, 159, 160, 161, 162]), (35, [163, 164, 165, 166, 167, 168, 169, 170, 171, 172, 173, 174, 175, 176]), (31, [140, 141]), (36, [177, 178]), (37, [179, 180, 181, 182]), (38, [183, 184, 185, 186, 187, 188])], [73], []⟩
def gbzB := bd f40
def gbza : Shps := (shps [(.box Z2)])
def gbzo : Shps := (shps [(.box Z2)])
theorem gbzL : Ok [gblE, gbkE, gbmE, gbnE, gbqE, gbxE, gbyE] := kc gblK (kc gbkK (kc gbmK (kc gbnK (kc gbqK (kc gbxK (kc gbyK k0))))))
def gbzk1 : Cs := (250, loopOf (shps [(.box Z2), (.box (shps [(.ow Z15), (.ow (.cons I (.cons I (.cons I (.cons I (.cons .bool (.cons .bool (.cons I (.cons I Z19))))))))), (.ow (.cons I Z30)), (.ow (.cons I Z8))])), (.box Z4), (.box Z4), (.box (shps [(.ow Z15), (.ow (.cons I (.cons I (.cons I (.cons I (.cons .bool (.cons .bool (.cons I (.cons I Z19))))))))), (.ow (.cons I Z30)), (.ow (.cons I Z8))])), J, J]) [0, 2, 3, 4, 5, 6, 7] [.exit 0 (shps [(.box Z2), (.box (shps [(.ow Z15), (.ow (.cons I (.cons I (.cons I (.cons I (.cons .bool (.cons .bool (.cons I (.cons I Z19))))))))), (.ow (.cons I Z30)), (.ow (.cons I Z8))])), (.box Z4), (.box Z4), (.box (shps [(.ow Z15), (.ow (.cons I (.cons I (.cons I (.cons I (.cons .bool (.cons .bool (.cons I (.cons I Z19))))))))), (.ow (.cons I Z30)), (.ow (.cons I Z8))])), J]) [0, 2, 3, 4, 5, 6]] gbz_250F) :: []
theorem gbzc1 : CutsOk tP gbzC gbzB gbzk1 :=
 CutsOk.loop tM rfl gbzL .nil _ _ _ _ _ (by kernel_rfl) (by kernel_rfl) fun x => by kernel_rfl
def gbzk2 : Cs := (2042, loopOf (shps [(.box Z2), (.box (shps [(.ow Z15), (.ow (.cons I (.cons I (.cons I (.cons I (.cons .bool (.cons .bool (.cons I (.cons I Z19))))))))), (.ow (.cons I Z30)), (.ow (.cons I Z8))])), (.box Z4), (.box Z4), (.box (shps [(.ow Z15), (.ow (.cons I (.cons I (.cons I (.cons I (.cons .bool (.cons .bool (.cons I (.cons I Z19))))))))), (.ow (.cons I Z30)), (.ow (.cons I Z8))])), J, J, (.box Z4), J]) [0, 2, 3, 4, 5, 6, 8, 9, 10] [.exit 2 (shps [(.box Z2), (.box (shps [(.ow Z15), (.ow (.cons I (.cons I (.cons I (.cons I (.cons .bool (.cons .bool (.cons I (.cons I Z19))))))))), (.ow (.cons I Z30)), (.ow (.cons I Z8))])), (.box Z4), (.box Z4), (.box (shps [(.ow Z15), (.ow (.cons I (.cons I (.cons I (.cons I (.cons .bool (.cons .bool (.cons I (.cons I Z19))))))))), (.ow (.cons I Z30)), (.ow (.cons I Z8))])), J, J, (.box Z4)]) [0, 2, 3, 4, 5, 6, 8, 9]] gbz_2042F) :: gbzk1
theorem gbzc2 : CutsOk tP gbzC gbzB gbzk2 :=
 CutsOk.loop tM rfl gbzL gbzc1 _ _ _ _ _ (by kernel_rfl) (by kernel_rfl) fun x => by kernel_rfl
def gbzk3 : Cs := (16766111, cutOf (shps [(.box Z2), (.box (shps [(.ow Z15), (.ow (.cons I (.cons I (.cons I (.cons I (.cons .bool (.cons .bool (.cons I (.cons I Z19))))))))), (.ow (.cons I Z30)), (.ow (.cons I Z8))])), (.box Z4), (.box Z4), (.box (shps [(.ow Z15), (.ow (.cons I (.cons I (.cons I (.cons I (.cons .bool (.cons .bool (.cons I (.cons I Z19))))))))), (.ow (.cons I Z30)), (.ow (.cons I Z8))])), J, J, (.box Z4), (.ow (.one I)), J, (.box Z1), J]) [0, 2, 3, 4, 5, 6, 8, 9, 11, 12, 14, 15] [.norm (shps [(.box Z2), (.box (shps [(.ow Z15), (.ow (.cons I (.cons I (.cons I (.cons I (.cons .bool (.cons .bool (.cons I (.cons I Z19))))))))), (.ow (.cons I Z30)), (.ow (.cons I Z8))])), (.box Z4), (.box Z4), (.box (shps [(.ow Z15), (.ow (.cons I (.cons I (.cons I (.cons I (.cons .bool (.cons .bool (.cons I (.cons I Z19))))))))), (.ow (.cons I Z30)), (.ow (.cons I Z8))])), J, J, (.box Z4), (.ow (.one I)), J]) [0, 2, 3, 4, 5, 6, 8, 9, 11, 12]] fun x => gbz_16766111 x.1.1 x.1.2.1 x.2.1.1 x.2.1.2.1 x.2.1.2.2.1 x.2.1.2.2.2.1 x.2.2.1.1 x.2.2.1.2.1 x.2.2.2.1.1 x.2.2.2.1.2.1 x.2.2.2.2.1.1 x.2.2.2.2.1.2.1 x.2.2.2.2.1.2.2.1 x.2.2.2.2.1.2.2.2.1 x.2.2.2.2.2.1 x.2.2.2.2.2.2.1 x.2.2.2.2.2.2.2.1.1 x.2.2.2.2.2.2.2.1.2.1 x.2.2.2.2.2.2.2.2.1 x.2.2.2.2.2.2.2.2.2.1 x.2.2.2.2.2.2.2.2.2.2.1.1 x.2.2.2.2.2.2.2.2.2.2.1.2.1 x.2.2.2.2.2.2.2.2.2.2.1.2.2.1 x.2.2.2.2.2.2.2.2.2.2.1.2.2.2.1 x.2.2.2.2.2.2.2.2.2.2.1.2.2.2.2.1 x.2.2.2.2.2.2.2.2.2.2.1.2.2.2.2.2.1 x.2.2.2.2.2.2.2.2.2.2.1.2.2.2.2.2.2.1 x.2.2.2.2.2.2.2.2.2.2.1.2.2.2.2.2.2.2.1 x.2.2.2.2.2.2.2.2.2.2.1.2.2.2.2.2.2.2.2.1 x.2.2.2.2.2.2.2.2.2.2.1.2.2.2.2.2.2.2.2.2.1 x.2.2.2.2.2.2.2.2.2.2.2.1) :: gbzk2
theorem gbzc3 : CutsOk tP gbzC gbzB gbzk3 :=
 CutsOk.cut tM rfl gbzL gbzc2 _ _ _ _ _ (by kernel_rfl) fun x => by kernel_rfl
def gbzk4 : Cs := (32746, loopOf (shps [(.box Z2), (.box (shps [(.ow Z15), (.ow (.cons I (.cons I (.cons I (.cons I (.cons .bool (.cons .bool (.cons I (.cons I Z19))))))))), (.ow (.cons I Z30)), (.ow (.cons I Z8))])), (.box Z4), (.box Z4), (.box (shps [(.ow Z15), (.ow (.cons I (.cons I (.cons I (.cons I (.cons .bool (.cons .bool (.cons I (.cons I Z19))))))))), (.ow (.cons I Z30)), (.ow (.cons I Z8))])), J, J, (.box Z4), (.ow (.one I)), J]) [0, 2, 3, 4, 5, 6, 8, 9, 11, 12] [.exit 4 (shps [(.box Z2), (.box (shps [(.ow Z15), (.ow (.cons I (.cons I (.cons I (.cons I (.cons .bool (.cons .bool (.cons I (.cons I Z19))))))))), (.ow (.cons I Z30)), (.ow (.cons I Z8))])), (.box Z4), (.box Z4), (.box (shps [(.ow Z15), (.ow (.cons I (.cons I (.cons I (.cons I (.cons .bool (.cons .bool (.cons I (.cons I Z19))))))))), (.ow (.cons I Z30)), (.ow (.cons I Z8))])), J, J, (.box Z4), (.ow (.one I))]) [0, 2, 3, 4, 5, 6, 8, 9, 11]] gbz_32746F) :: gbzk3
theorem gbzc4 : CutsOk tP gbzC gbzB gbzk4 :=
 CutsOk.loop tM rfl gbzL gbzc3 _ _ _ _ _ (by kernel_rfl) (by kernel_rfl) fun x => by kernel_rfl
def gbzk5 : Cs := (1048211, cutOf (shps [(.box Z2), (.box (shps [(.ow Z15), (.ow (.cons I (.cons I (.cons I (.cons I (.cons .bool (.cons .bool (.cons I (.cons I Z19))))))))), (.ow (.cons I Z30)), (.ow (.cons I Z8))])), (.box Z4), (.box Z4), (.box (shps [(.ow Z15), (.ow (.cons I (.cons I (.cons I (.cons I (.cons .bool (.cons .bool (.cons I (.cons I Z19))))))))), (.ow (.cons I Z30)), (.ow (.cons I Z8))])), J, J, (.box Z4), (.ow (.one I)), J, (.box Z1), J]) [0, 2, 3, 4, 5, 6, 8, 9, 11, 16, 17, 18] [.norm (shps [(.box Z2), (.box (shps [(.ow Z15), (.ow (.cons I (.cons I (.cons I (.cons I (.cons .bool (.cons .bool (.cons I (.cons I Z19))))))))), (.ow (.cons I Z30)), (.ow (.cons I Z8))])), (.box Z4), (.box Z4), (.box (shps [(.ow Z15), (.ow (.cons I (.cons I (.cons I (.cons I (.cons .bool (.cons .bool (.cons I (.cons I Z19))))))))), (.ow (.cons I Z30)), (.ow (.cons I Z8))])), J, J, (.box Z4), (.ow (.one I)), J]) [0, 2, 3, 4, 5, 6, 8, 9, 11, 16]] fun x => gbz_1048211 x.1.1 x.1.2.1 x.2.1.1 x.2.1.2.1 x.2.1.2.2.1 x.2.1.2.2.2.1 x.2.2.1.1 x.2.2.1.2.1 x.2.2.2.1.1 x.2.2.2.1.2.1 x.2.2.2.2.1.1 x.2.2.2.2.1.2.1 x.2.2.2.2.1.2.2.1 x.2.2.2.2.1.2.2.2.1 x.2.2.2.2.2.1 x.2.2.2.2.2.2.1 x.2.2.2.2.2.2.2.1.1 x.2.2.2.2.2.2.2.1.2.1 x.2.2.2.2.2.2.2.2.1 x.2.2.2.2.2.2.2.2.2.1 x.2.2.2.2.2.2.2.2.2.2.1.1 x.2.2.2.2.2.2.2.2.2.2.1.2.1 x.2.2.2.2.2.2.2.2.2.2.1.2.2.1 x.2.2.2.2.2.2.2.2.2.2.1.2.2.2.1 x.2.2.2.2.2.2.2.2.2.2.1.2.2.2.2.1 x.2.2.2.2.2.2.2.2.2.2.1.2.2.2.2.2.1 x.2.2.2.2.2.2.2.2.2.2.1.2.2.2.2.2.2.1 x.2.2.2.2.2.2.2.2.2.2.1.2.2.2.2.2.2.2.1 x.2.2.2.2.2.2.2.2.2.2.1.2.2.2.2.2.2.2.2.1 x.2.2.2.2.2.2.2.2.2.2.1.2.2.2.2.2.2.2.2.2.1 x.2.2.2.2.2.2.2.2.2.2.2.1) :: gbzk4
theorem gbzc5 : CutsOk tP gbzC gbzB gbzk5 :=
 CutsOk.cut tM rfl gbzL gbzc4 _ _ _ _ _ (by kernel_rfl) fun x => by kernel_rfl
def gbzk6 : Cs := (16378, loopOf (shps [(.box Z2), (.box (shps [(.ow Z15), (.ow (.cons I (.cons I (.cons I (.cons I (.cons .bool (.cons .bool (.cons I (.cons I Z19))))))))), (.ow (.cons I Z30)), (.ow (.cons I Z8))])), (.box Z4), (.box Z4), (.box (shps [(.ow Z15), (.ow (.cons I (.cons I (.cons I (.cons I (.cons .bool (.cons .bool (.cons I (.cons I Z19))))))))), (.ow (.cons I Z30)), (.ow (.cons I Z8))])), J, J, (.box Z4), (.ow (.one I)), J]) [0, 2, 3, 4, 5, 6, 8, 9, 11, 16] [.exit 6 (shps [(.box Z2), (.box (shps [(.ow Z15), (.ow (.cons I (.cons I (.cons I (.cons I (.cons .bool (.cons .bool (.cons I (.cons I Z19))))))))), (.ow (.cons I Z30)), (.ow (.cons I Z8))])), (.box Z4), (.box Z4), (.box (shps [(.ow Z15), (.ow (.cons I (.cons I (.cons I (.cons I (.cons .bool (.cons .bool (.cons I (.cons I Z19))))))))), (.ow (.cons I Z30)), (.ow (.cons I Z8))])), (.box Z4)]) [0, 2, 3, 4, 5, 9]] gbz_16378F) :: gbzk5
theorem gbzc6 : CutsOk tP gbzC gbzB gbzk6 :=
 CutsOk.loop tM rfl gbzL gbzc5 _ _ _ _ _ (by kernel_rfl) (by kernel_rfl) fun x => by kernel_rfl
def gbzk7 : Cs := (2047, cutOf (shps [(.box Z2), (.box (shps [(.ow Z15), (.ow (.cons I (.cons I (.cons I (.cons I (.cons .bool (.cons .bool (.cons I (.cons I Z19))))))))), (.ow (.cons I Z30)), (.ow (.cons I Z8))])), (.box Z4), (.box Z4), (.box (shps [(.ow Z15), (.ow (.cons I (.cons I (.cons I (.cons I (.cons .bool (.cons .bool (.cons I (.cons I Z19))))))))), (.ow (.cons I Z30)), (.ow (.cons I Z8))])), J, J, (.box Z4), (.ow (.one I))]) [0, 2, 3, 4, 5, 6, 8, 9, 11] [.ret (shps [(.box Z2), (.box (shps [(.ow Z15), (.ow (.cons I (.cons I (.cons I (.cons I (.cons .bool (.cons .bool (.cons I (.cons I Z19))))))))), (.ow (.cons I Z30)), (.ow (.cons I Z8))])), (.box Z4), (.box Z4)]) [0, 2, 3, 4]] fun x => gbz_2047 x.1.1 x.1.2.1 x.2.1.1 x.2.1.2.1 x.2.1.2.2.1 x.2.1.2.2.2.1 x.2.2.1.1 x.2.2.1.2.1 x.2.2.2.1.1 x.2.2.2.1.2.1 x.2.2.2.2.1.1 x.2.2.2.2.1.2.1 x.2.2.2.2.1.2.2.1 x.2.2.2.2.1.2.2.2.1 x.2.2.2.2.2.1 x.2.2.2.2.2.2.1 x.2.2.2.2.2.2.2.1.1 x.2.2.2.2.2.2.2.1.2.1 x.2.2.2.2.2.2.2.2.1) :: gbzk6
theorem gbzc7 : CutsOk tP gbzC gbzB gbzk7 :=
 CutsOk.cut tM rfl gbzL gbzc6 _ _ _ _ _ (by kernel_rfl) fun x => by kernel_rfl
def gbzk8 : Cs := (15, cutOf (shps [(.box Z2), (.box (shps [(.ow Z15), (.ow (.cons I (.cons I (.cons I (.cons I (.cons .bool (.cons .bool (.cons I (.cons I Z19))))))))), (.ow (.cons I Z30)), (.ow (.cons I Z8))])), (.box Z4), (.box Z4), (.box (shps [(.ow Z15), (.ow (.cons I (.cons I (.cons I (.cons I (.cons .bool (.cons .bool (.cons I (.cons I Z19))))))))), (.ow (.cons I Z30)), (.ow (.cons I Z8))]))]) [0, 2, 3, 4, 5] [.ret (shps [(.box Z2), (.box (shps [(.ow Z15), (.ow (.cons I (.cons I (.cons I (.cons I (.cons .bool (.cons .bool (.cons I (.cons I Z19))))))))), (.ow (.cons I Z30)), (.ow (.cons I Z8))])), (.box Z4), (.box Z4)]) [0, 2, 3, 4]] fun x => gbz_15 x.1.1 x.1.2.1 x.2.1.1 x.2.1.2.1 x.2.1.2.2.1 x.2.1.2.2.2.1 x.2.2.1.1 x.2.2.1.2.1 x.2.2.2.1.1 x.2.2.2.1.2.1 x.2.2.2.2.1.1 x.2.2.2.2.1.2.1 x.2.2.2.2.1.2.2.1 x.2.2.2.2.1.2.2.2.1) :: gbzk7
theorem gbzc8 : CutsOk tP gbzC gbzB gbzk8 :=
 CutsOk.cut tM rfl gbzL gbzc7 _ _ _ _ _ (by kernel_rfl) fun x => by kernel_rfl
def gbzE : Entry := ⟨40, gbza, (.tup (shps [(.agg (shps [(.ow Z15), (.sl (.cons I (.cons I (.cons I (.cons I (.cons .bool (.cons .bool (.cons I (.cons I Z19))))))))), (.sl (.cons I Z30)), (.sl (.cons I Z8))])), (.agg Z4), (.agg Z4)])), gbzo, fun x => gbz x.1.1 x.1.2.1⟩
theorem gbzK : EntryOk tP gbzE :=
 entry_ok tM rfl gbzL func40 (by kernel_rfl) (by kernel_rfl) gbzc8 [14] _ _ _ _ (fun x => by kernel_rfl) fun x => by kernel_rfl
def gcaC : Ctx := ⟨tP, 5, 0, [(1, [3, 4])], [], []⟩
def gcaB := bd f38
def gcaa : Shps := (shps [J])
def gcao : Shps := (shps [])
def gcaE : Entry := ⟨38, gcaa, .bool, gcao, fun x => gca x.1⟩
theorem gcaK : EntryOk tP gcaE :=
 entry_ok tM rfl k0 func38 (by kernel_rfl) (by kernel_rfl) (CutsOk.nil (C := gcaC) (root := gcaB)) [] _ _ _ _ (fun x => by kernel_rfl) fun x => by kernel_rfl
def gcbC : Ctx := ⟨tP, 32, 1, [(1, [10, 11, 12, 13, 14, 15]), (2, [16, 17]), (3, [19, 20, 21, 22, 23, 24]), (4, [25, 26, 27, 28, 29, 30]), (5, [31])], [], []⟩
def gcbB := bd f41
def gcba : Shps := (shps [(.box Z2), J, J, J])
def gcbo : Shps := (shps [(.box Z2)])
theorem gcbL : Ok [gbmE, gcaE, gbkE] := kc gbmK (kc gcaK (kc gbkK k0))
def gcbE : Entry := ⟨41, gcba, (.agg Z10), gcbo, fun x => gcb x.1.1 x.1.2.1 x.2.1 x.2.2.1 x.2.2.2.1⟩
theorem gcbK : EntryOk tP gcbE :=
 entry_ok tM rfl gcbL func41 (by kernel_rfl) (by kernel_rfl) (CutsOk.nil (C := gcbC) (root := gcbB)) [] _ _ _ _ (fun x => by kernel_rfl) fun x => by kernel_rfl
def gccC : Ctx := ⟨tP, 15, 1, [(1, [4, 5, 6, 7, 8]), (2, [9, 10, 11, 12, 13]), (3, [14])], [], []⟩
def gccB := bd f75
def gcca : Shps := (shps [(.box Z2)])
def gcco : Shps := (shps [(.box Z2)])
theorem gccL : Ok [gbmE, gbkE] := kc gbmK (kc gbkK k0)
def gccE : Entry := ⟨75, gcca, (.agg Z21), gcco, fun x => gcc x.1.1 x.1.2.1⟩
theorem gccK : EntryOk tP gccE :=
 entry_ok tM rfl gccL func75 (by kernel_rfl) (by kernel_rfl) (CutsOk.nil (C := gccC) (root := gccB)) [] _ _ _ _ (fun x => by kernel_rfl) fun x => by kernel_rfl
def gcdC : Ctx := ⟨tP, 54, 1, [(1, [8, 9, 10, 11, 12, 13, 14]), (2, [15, 16]), (4, [18, 19, 20, 21]), (6, [25, 26, 27, 28, 29, 30]), (7, [32, 33]), (8, [34]), (5, [23, 24]), (9, [35]), (10, [36, 37, 38]), (11, [39, 40]), (12, [42, 43, 44, 45, 46]), (13, [47]), (15, [49, 50, 51, 52]), (16, [53])], [], []⟩
def gcdB := bd f42
def gcda : Shps := (shps [(.box Z2), (.agg (shps [(.sl Z15), (.sl (.cons I (.cons I (.cons I (.cons I (.cons .bool (.cons .bool (.cons I (.cons I Z19))))))))), (.sl (.cons I Z30)), (.sl (.cons I Z8)), (.sl (.cons I (.cons I (.cons I (.cons I (.cons I (.cons I Z19))))))), (.sl (.cons I (.cons I (.cons I (.cons I Z19))))), (.sl (.cons (.sl (.cons I (.cons I Z19))) (.cons I Z9))), (.sl (.one I))]))])
def gcdo : Shps := (shps [(.box Z2)])
theorem gcdL : Ok [gbmE, gccE, gbkE] := kc gbmK (kc gccK (kc gbkK k0))
def gcdk1 : Cs := (466, loopOf (shps [(.box Z2), (.box (shps [(.sl Z15), (.sl (.cons I (.cons I (.cons I (.cons I (.cons .bool (.cons .bool (.cons I (.cons I Z19))))))))), (.sl (.cons I Z30)), (.sl (.cons I Z8)), (.sl (.cons I (.cons I (.cons I (.cons I (.cons I (.cons I Z19))))))), (.sl (.cons I (.cons I (.cons I (.cons I Z19))))), (.sl (.cons (.sl (.cons I (.cons I Z19))) (.cons I Z9))), (.sl (.one I))])), (.box Z14), (.box Z14), J]) [0, 3, 4, 5, 6] [.ret (shps [(.box Z2), (.box Z14)]) [0, 4], .exit 0 (shps [(.box Z2), (.box (shps [(.sl Z15), (.sl (.cons I (.cons I (.cons I (.cons I (.cons .bool (.cons .bool (.cons I (.cons I Z19))))))))), (.sl (.cons I Z30)), (.sl (.cons I Z8)), (.sl (.cons I (.cons I (.cons I (.cons I (.cons I (.cons I Z19))))))), (.sl (.cons I (.cons I (.cons I (.cons I Z19))))), (.sl (.cons (.sl (.cons I (.cons I Z19))) (.cons I Z9))), (.sl (.one I))])), (.box Z14), (.box Z14)]) [0, 3, 4, 5]] gcd_466F) :: []
theorem gcdc1 : CutsOk tP gcdC gcdB gcdk1 :=
 CutsOk.loop tM rfl gcdL .nil _ _ _ _ _ (by kernel_rfl) (by kernel_rfl) fun x => by kernel_rfl
def gcdk2 : Cs := (127, cutOf (shps [(.box Z2), (.box Z14), (.box Z14), J]) [0, 4, 5, 7] [.ret (shps [(.box Z2), (.box Z14)]) [0, 4]] fun x => gcd_127 x.1.1 x.1.2.1 x.2.1.1 x.2.1.2.1 x.2.1.2.2.1 x.2.1.2.2.2.1 x.2.1.2.2.2.2.1 x.2.1.2.2.2.2.2.1 x.2.2.1.1 x.2.2.1.2.1 x.2.2.1.2.2.1 x.2.2.1.2.2.2.1 x.2.2.1.2.2.2.2.1 x.2.2.1.2.2.2.2.2.1 x.2.2.2.1) :: gcdk1
theorem gcdc2 : CutsOk tP gcdC gcdB gcdk2 :=
 CutsOk.cut tM rfl gcdL gcdc1 _ _ _ _ _ (by kernel_rfl) fun x => by kernel_rfl
def gcdk3 : Cs := (63, cutOf (shps [(.box Z2), (.box Z14), (.box Z14), J]) [0, 4, 5, 7] [.ret (shps [(.box Z2), (.box Z14)]) [0, 4]] fun x => gcd_63 x.1.1 x.1.2.1 x.2.1.1 x.2.1.2.1 x.2.1.2.2.1 x.2.1.2.2.2.1 x.2.1.2.2.2.2.1 x.2.1.2.2.2.2.2.1 x.2.2.1.1 x.2.2.1.2.1 x.2.2.1.2.2.1 x.2.2.1.2.2.2.1 x.2.2.1.2.2.2.2.1 x.2.2.1.2.2.2.2.2.1 x.2.2.2.1) :: gcdk2
theorem gcdc3 : CutsOk tP gcdC gcdB gcdk3 :=
 CutsOk.cut tM rfl gcdL gcdc2 _ _ _ _ _ (by kernel_rfl) fun x => by kernel_rfl
def gcdk4 : Cs := (15, cutOf (shps [(.box Z2), (.box (shps [(.sl Z15), (.sl (.cons I (.cons I (.cons I (.cons I (.cons .bool (.cons .bool (.cons I (.cons I Z19))))))))), (.sl (.cons I Z30)), (.sl (.cons I Z8)), (.sl (.cons I (.cons I (.cons I (.cons I (.cons I (.cons I Z19))))))), (.sl (.cons I (.cons I (.cons I (.cons I Z19))))), (.sl (.cons (.sl (.cons I (.cons I Z19))) (.cons I Z9))), (.sl (.one I))])), (.box Z14), (.box Z14)]) [0, 3, 4, 5] [.ret (shps [(.box Z2), (.box Z14)]) [0, 4]] fun x => gcd_15 x.1.1 x.1.2.1 x.2.1.1 x.2.1.2.1 x.2.1.2.2.1 x.2.1.2.2.2.1 x.2.1.2.2.2.2.1 x.2.1.2.2.2.2.2.1 x.2.1.2.2.2.2.2.2.1 x.2.1.2.2.2.2.2.2.2.1 x.2.2.1.1 x.2.2.1.2.1 x.2.2.1.2.2.1 x.2.2.1.2.2.2.1 x.2.2.1.2.2.2.2.1 x.2.2.1.2.2.2.2.2.1 x.2.2.2.1.1 x.2.2.2.1.2.1 x.2.2.2.1.2.2.1 x.2.2.2.1.2.2.2.1 x.2.2.2.1.2.2.2.2.1 x.2.2.2.1.2.2.2.2.2.1) :: gcdk3
theorem gcdc4 : CutsOk tP gcdC gcdB gcdk4 :=
 CutsOk.cut tM rfl gcdL gcdc3 _ _ _ _ _ (by kernel_rfl) fun x => by kernel_rfl
def gcdE : Entry := ⟨42, gcda, (.agg Z14), gcdo, fun x => gcd x.1.1 x.1.2.1 x.2.1.1 x.2.1.2.1 x.2.1.2.2.1 x.2.1.2.2.2.1 x.2.1.2.2.2.2.1 x.2.1.2.2.2.2.2.1 x.2.1.2.2.2.2.2.2.1 x.2.1.2.2.2.2.2.2.2.1⟩
theorem gcdK : EntryOk tP gcdE :=
 entry_ok tM rfl gcdL func42 (by kernel_rfl) (by kernel_rfl) gcdc4 [] _ _ _ _ (fun x => by kernel_rfl) fun x => by kernel_rfl
def gceC : Ctx := ⟨tP, 106, 1, [(1, [11, 12, 13, 14, 15, 16]), (2, [18, 19, 20, 21, 22]), (3, [23, 24, 25, 26, 27]), (4, [28]), (5, [30, 31, 32, 33, 34, 35, 36]), (6, [37, 38, 39, 40, 41]), (8, [42, 43, 44]), (10, [48, 49, 50, 51, 52]), (11, [54, 55, 56, 57, 58, 59, 60, 61, 62, 63]), (12, [64, 65, 66, 67, 68, 69, 70, 71, 72, 73, 74, 75, 76]), (13, [78, 79, 80, 81, 82, 83, 84, 85, 86, 87]), (9, [46, 47]), (14, [88, 89, 90, 91, 92]), (15, [93, 94, 95, 96, 97, 98, 99, 100, 101, 102, 103, 104, 105])], [], [1]⟩
def gceB := bd f43
def gcea : Shps := (shps [(.box Z2), J, J])
def gceo : Shps := (shps [(.box Z2)])
def gceR (rec : ((List Int × Int × Unit) × Int × Int × Unit) → Option (List (Int × Int × Int × Int) × ((List Int × Int × Unit) × Unit))) : Entry := ⟨43, gcea, (.ow (.cons I (.cons I Z19))), gceo, rec⟩
def gceO (rec : ((List Int × Int × Unit) × Int × Int × Unit) → Option (List (Int × Int × Int × Int) × ((List Int × Int × Unit) × Unit))) : List Entry := [gceR rec, gbkE, gblE, gbmE]
theorem gceL (rec : ((List Int × Int × Unit) × Int × Int × Unit) → Option (List (Int × Int × Int × Int) × ((List Int × Int × Unit) × Unit))) (hrec : EntryOk tP (gceR rec)) : ∀ e ∈ (gceO rec), EntryOk tP e := by
 intro e he
 simp only [gceO, List.mem_cons, List.not_mem_nil, or_false] at he
 rcases he with rfl | rfl | rfl | rfl
 ·exact hrec
 ·exact gbkK
 ·exact gblK
 ·exact gbmK
def gcek0 (rec : ((List Int × Int × Unit) × Int × Int × Unit) → Option (List (Int × Int × Int × Int) × ((List Int × Int × Unit) × Unit))) : List (Nat × Cut) := []
theorem gcec0 (rec : ((List Int × Int × Unit) × Int × Int × Unit) → Option (List (Int × Int × Int × Int) × ((List Int × Int × Unit) × Unit))) (hrec : EntryOk tP (gceR rec)) : CutsOk tP gceC gceB (gcek0 rec) := CutsOk.nil
def gce_16201s : Shps := (shps [(.box Z2), (.ow (.cons I (.cons I Z19))), (.ow (.cons I (.cons I Z19))), J])
def gce_16201w : List Way := [.norm (shps [(.box Z2), (.ow (.cons I (.cons I Z19))), (.ow (.cons I (.cons I Z19))), J]) [0, 7, 8, 9]]
def gcek1 (rec : ((List Int × Int × Unit) × Int × Int × Unit) → Option (List (Int × Int × Int × Int) × ((List Int × Int × Unit) × Unit))) : List (Nat × Cut) := (16201, cutOf gce_16201s [0, 7, 8, 9] gce_16201w fun x => gce_16201 rec x.1.1 x.1.2.1 x.2.1 x.2.2.1 x.2.2.2.1) :: (gcek0 rec)
theorem gcec1 (rec : ((List Int × Int × Unit) × Int × Int × Unit) → Option (List (Int × Int × Int × Int) × ((List Int × Int × Unit) × Unit))) (hrec : EntryOk tP (gceR rec)) : CutsOk tP gceC gceB (gcek1 rec) :=
 CutsOk.cut tM rfl (gceL rec hrec) (gcec0 rec hrec) 16201 gce_16201s [0, 7, 8, 9] gce_16201w (fun x => gce_16201 rec x.1.1 x.1.2.1 x.2.1 x.2.2.1 x.2.2.2.1) (by kernel_rfl) fun x => by kernel_rfl
def gce_506s : Shps := (shps [(.box Z2), (.ow (.cons I (.cons I Z19))), (.ow (.cons I (.cons I Z19))), J])
def gce_506w : List Way := [.exit 0 (shps [(.box Z2), (.ow (.cons I (.cons I Z19))), (.ow (.cons I (.cons I Z19)))]) [0, 7, 8]]
def gcek2 (rec : ((List Int × Int × Unit) × Int × Int × Unit) → Option (List (Int × Int × Int × Int) × ((List Int × Int × Unit) × Unit))) : List (Nat × Cut) := (506, loopOf gce_506s [0, 7, 8, 9] gce_506w (gce_506F rec)) :: (gcek1 rec)
theorem gcec2 (rec : ((List Int × Int × Unit) × Int × Int × Unit) → Option (List (Int × Int × Int × Int) × ((List Int × Int × Unit) × Unit))) (hrec : EntryOk tP (gceR rec)) : CutsOk tP gceC gceB (gcek2 rec) :=
 CutsOk.loop tM rfl (gceL rec hrec) (gcec1 rec hrec) 506 gce_506s [0, 7, 8, 9] gce_506w (gce_506F rec) (by kernel_rfl) (by kernel_rfl) fun x => by kernel_rfl
theorem gceKb (rec : ((List Int × Int × Unit) × Int × Int × Unit) → Option (List (Int × Int × Int × Int) × ((List Int × Int × Unit) × Unit))) (hrec : EntryOk tP (gceR rec)) : EntryOk tP ⟨43, gcea, (.ow (.cons I (.cons I Z19))), gceo, fun x => gceb rec x.1.1 x.1.2.1 x.2.1 x.2.2.1⟩ :=
 entry_ok tM rfl (gceL rec hrec) (fn := f43) func43 (by kernel_rfl) (root := gceB) (by kernel_rfl) (gcec2 rec hrec) [] gcea (.ow (.cons I (.cons I Z19))) gceo (fun x => gceb rec x.1.1 x.1.2.1 x.2.1 x.2.2.1) (fun x => by kernel_rfl) fun x => by kernel_rfl
theorem gceKi : ∀ n, EntryOk tP (gceR (gcei n))
 | 0 => fun x y h => by cases h
 | n + 1 => gceKb (gcei n) (gceKi n)
def gceE : Entry := ⟨43, gcea, (.ow (.cons I (.cons I Z19))), gceo, fun x => gce x.1.1 x.1.2.1 x.2.1 x.2.2.1⟩
theorem gceK : EntryOk tP gceE := gceKi 1000000
def gcfC : Ctx := ⟨tP, 181, 1, [(1, [18, 19, 20, 21, 22, 23]), (2, [24, 25]), (3, [26, 27, 28, 29]), (4, [31, 32, 33, 34, 35, 36, 37, 38, 39, 40]), (5, [41, 42, 43, 44, 45, 46, 47, 48, 49, 50, 51, 52]), (6, [53, 54, 55, 56, 57, 58, 59]), (7, [60, 61, 62, 63, 64]), (8, [65, 66]), (9, [67]), (11, [71, 72]), (12, [73, 74, 75, 76, 77, 78, 79, 80, 81, 82, 83, 84, 85, 86]), (10, [69, 70]), (14, [87, 88, 89, 90]), (16, [94, 95, 96, 97, 98, 99, 100, 101, 102, 103, 104]), (15, [92, 93]), (18, [105, 106, 107, 108]), (20, [112, 113, 114, 115, 116, 117, 118, 119, 120, 121, 122]), (19, [110, 111]), (21, [123, 124]), (22, [125]), (24, [129, 130, 131, 132, 133, 134, 135, 136]), (23, [127, 128]), (25, [137, 138]), (26, [139]), (28, [143, 144, 145, 146, 147, 148, 149, 150, 151, 152]), (30, [153, 154]), (32, [158]), (33, [160, 161, 162, 163, 164, 165]), (31, [156, 157]), (34, [166, 167, 168, 169, 170, 171]), (27, [141, 142]), (35, [172, 173, 174, 175, 176, 177]), (36, [178, 179, 180])], [], []⟩
def gcfB := bd f12
def gcfa : Shps := (shps [(.box Z2)])
def gcfo : Shps := (shps [(.box Z2)])
theorem gcfL : Ok [gbzE, gbmE, gbkE, gcbE, gcdE, gceE, gblE] := kc gbzK (kc gbmK (kc gbkK (kc gcbK (kc gcdK (kc gceK (kc gblK k0))))))
def gcfk1 : Cs := (506, loopOf (shps [(.box Z2), (.box (shps [(.ow Z15), (.ow (.cons I (.cons I (.cons I (.cons I (.cons .bool (.cons .bool (.cons I (.cons I Z19))))))))), (.ow (.cons I Z30)), (.ow (.cons I Z8)), (.ow (.cons I (.cons I (.cons I (.cons I (.cons I (.cons I Z19))))))), (.ow (.cons I (.cons I (.cons I (.cons I Z19))))), (.ow (.cons (.sl (.cons I (.cons I Z19))) (.cons I Z9))), (.ow (.one I))])), (.box Z4), (.box Z4), (.box (shps [.junk, (.sl (.cons I (.cons I (.cons I (.cons I (.cons .bool (.cons .bool (.cons I (.cons I Z19))))))))), (.sl (.cons I Z30)), (.sl (.cons I Z8))])), (.box Z4), (.box Z4), (.box (shps [(.ow Z15), (.sl (.cons I (.cons I (.cons I (.cons I (.cons .bool (.cons .bool (.cons I (.cons I Z19))))))))), (.sl (.cons I Z30)), (.sl (.cons I Z8)), (.ow (.cons I (.cons I (.cons I (.cons I (.cons I (.cons I Z19))))))), (.ow (.cons I (.cons I (.cons I (.cons I Z19))))), (.ow (.cons (.sl (.cons I (.cons I Z19))) (.cons I Z9))), (.ow (.one I))])), J, J]) [0, 2, 3, 4, 5, 6, 7, 8, 9, 10] [.exit 0 (shps [(.box Z2), (.box (shps [(.ow Z15), (.ow (.cons I (.cons I (.cons I (.cons I (.cons .bool (.cons .bool (.cons I (.cons I Z19))))))))), (.ow (.cons I Z30)), (.ow (.cons I Z8)), (.ow (.cons I (.cons I (.cons I (.cons I (.cons I (.cons I Z19))))))), (.ow (.cons I (.cons I (.cons I (.cons I Z19))))), (.ow (.cons (.sl (.cons I (.cons I Z19))) (.cons I Z9))), (.ow (.one I))])), (.box Z4), (.box Z4), (.box (shps [.junk, (.sl (.cons I (.cons I (.cons I (.cons I (.cons .bool (.cons .bool (.cons I (.cons I Z19))))))))), (.sl (.cons I Z30)), (.sl (.cons I Z8))])), (.box Z4), (.box Z4), (.box (shps [(.ow Z15), (.sl (.cons I (.cons I (.cons I (.cons I (.cons .bool (.cons .bool (.cons I (.cons I Z19))))))))), (.sl (.cons I Z30)), (.sl (.cons I Z8)), (.ow (.cons I (.cons I (.cons I (.cons I (.cons I (.cons I Z19))))))), (.ow (.cons I (.cons I (.cons I (.cons I Z19))))), (.ow (.cons (.sl (.cons I (.cons I Z19))) (.cons I Z9))), (.ow (.one I))])), J]) [0, 2, 3, 4, 5, 6, 7, 8, 9]] gcf_506F) :: []
theorem gcfc1 : CutsOk tP gcfC gcfB gcfk1 :=
 CutsOk.loop tM rfl gcfL .nil _ _ _ _ _ (by kernel_rfl) (by kernel_rfl) fun x => by kernel_rfl
def gcfk2 : Cs := (1018, loopOf (shps [(.box Z2), (.box (shps [(.ow Z15), (.ow (.cons I (.cons I (.cons I (.cons I (.cons .bool (.cons .bool (.cons I (.cons I Z19))))))))), (.ow (.cons I Z30)), (.ow (.cons I Z8)), (.ow (.cons I (.cons I (.cons I (.cons I (.cons I (.cons I Z19))))))), (.ow (.cons I (.cons I (.cons I (.cons I Z19))))), (.ow (.cons (.sl (.cons I (.cons I Z19))) (.cons I Z9))), (.ow (.one I))])), (.box Z4), (.box Z4), (.box (shps [.junk, (.sl (.cons I (.cons I (.cons I (.cons I (.cons .bool (.cons .bool (.cons I (.cons I Z19))))))))), (.sl (.cons I Z30)), (.sl (.cons I Z8))])), (.box Z4), (.box Z4), (.box (shps [(.ow Z15), (.sl (.cons I (.cons I (.cons I (.cons I (.cons .bool (.cons .bool (.cons I (.cons I Z19))))))))), (.sl (.cons I Z30)), (.sl (.cons I Z8)), (.ow (.cons I (.cons I (.cons I (.cons I (.cons I (.cons I Z19))))))), (.ow (.cons I (.cons I (.cons I (.cons I Z19))))), (.ow (.cons (.sl (.cons I (.cons I Z19))) (.cons I Z9))), (.ow (.one I))])), J, J]) [0, 2, 3, 4, 5, 6, 7, 8, 9, 12] [.exit 2 (shps [(.box Z2), (.box (shps [(.ow Z15), (.ow (.cons I (.cons I (.cons I (.cons I (.cons .bool (.cons .bool (.cons I (.cons I Z19))))))))), (.ow (.cons I Z30)), (.ow (.cons I Z8)), (.ow (.cons I (.cons I (.cons I (.cons I (.cons I (.cons I Z19))))))), (.ow (.cons I (.cons I (.cons I (.cons I Z19))))), (.ow (.cons (.sl (.cons I (.cons I Z19))) (.cons I Z9))), (.ow (.one I))])), (.box Z4), (.box Z4), (.box (shps [.junk, (.sl (.cons I (.cons I (.cons I (.cons I (.cons .bool (.cons .bool (.cons I (.cons I Z19))))))))), (.sl (.cons I Z30)), (.sl (.cons I Z8))])), (.box Z4), (.box Z4), (.box (shps [(.ow Z15), (.sl (.cons I (.cons I (.cons I (.cons I (.cons .bool (.cons .bool (.cons I (.cons I Z19))))))))), (.sl (.cons I Z30)), (.sl (.cons I Z8)), (.ow (.cons I (.cons I (.cons I (.cons I (.cons I (.cons I Z19))))))), (.ow (.cons I (.cons I (.cons I (.cons I Z19))))), (.ow (.cons (.sl (.cons I (.cons I Z19))) (.cons I Z9))), (.ow (.one I))])), J]) [0, 2, 3, 4, 5, 6, 7, 8, 9]] gcf_1018F) :: gcfk1
theorem gcfc2 : CutsOk tP gcfC gcfB gcfk2 :=
 CutsOk.loop tM rfl gcfL gcfc1 _ _ _ _ _ (by kernel_rfl) (by kernel_rfl) fun x => by kernel_rfl
def gcfk3 : Cs := (2042, loopOf (shps [(.box Z2), (.box (shps [(.ow Z15), (.ow (.cons I (.cons I (.cons I (.cons I (.cons .bool (.cons .bool (.cons I (.cons I Z19))))))))), (.ow (.cons I Z30)), (.ow (.cons I Z8)), (.ow (.cons I (.cons I (.cons I (.cons I (.cons I (.cons I Z19))))))), (.ow (.cons I (.cons I (.cons I (.cons I Z19))))), (.ow (.cons (.sl (.cons I (.cons I Z19))) (.cons I Z9))), (.ow (.one I))])), (.box Z4), (.box Z4), (.box (shps [.junk, (.sl (.cons I (.cons I (.cons I (.cons I (.cons .bool (.cons .bool (.cons I (.cons I Z19))))))))), (.sl (.cons I Z30)), (.sl (.cons I Z8))])), (.box Z4), (.box Z4), (.box (shps [(.ow Z15), (.sl (.cons I (.cons I (.cons I (.cons I (.cons .bool (.cons .bool (.cons I (.cons I Z19))))))))), (.sl (.cons I Z30)), (.sl (.cons I Z8)), (.ow (.cons I (.cons I (.cons I (.cons I (.cons I (.cons I Z19))))))), (.ow (.cons I (.cons I (.cons I (.cons I Z19))))), (.ow (.cons (.sl (.cons I (.cons I Z19))) (.cons I Z9))), (.ow (.one I))])), J, J]) [0, 2, 3, 4, 5, 6, 7, 8, 9, 13] [.exit 4 (shps [(.box Z2), (.box (shps [(.ow Z15), (.ow (.cons I (.cons I (.cons I (.cons I (.cons .bool (.cons .bool (.cons I (.cons I Z19))))))))), (.ow (.cons I Z30)), (.ow (.cons I Z8)), (.ow (.cons I (.cons I (.cons I (.cons I (.cons I (.cons I Z19))))))), (.ow (.cons I (.cons I (.cons I (.cons I Z19))))), (.ow (.cons (.sl (.cons I (.cons I Z19))) (.cons I Z9))), (.ow (.one I))])), (.box Z4), (.box Z4), (.box Z4), (.box Z4), (.box (shps [(.ow Z15), (.sl (.cons I (.cons I (.cons I (.cons I (.cons .bool (.cons .bool (.cons I (.cons I Z19))))))))), (.sl (.cons I Z30)), (.sl (.cons I Z8)), (.ow (.cons I (.cons I (.cons I (.cons I (.cons I (.cons I Z19))))))), (.ow (.cons I (.cons I (.cons I (.cons I Z19))))), (.ow (.cons (.sl (.cons I (.cons I Z19))) (.cons I Z9))), (.ow (.one I))])), J]) [0, 2, 3, 4, 6, 7, 8, 9]] gcf_2042F) :: gcfk2
theorem gcfc3 : CutsOk tP gcfC gcfB gcfk3 :=
 CutsOk.loop tM rfl gcfL gcfc2 _ _ _ _ _ (by kernel_rfl) (by kernel_rfl) fun x => by kernel_rfl
def gcfk4 : Cs := (4090, loopOf (shps [(.box Z2), (.box (shps [(.ow Z15), (.ow (.cons I (.cons I (.cons I (.cons I (.cons .bool (.cons .bool (.cons I (.cons I Z19))))))))), (.ow (.cons I Z30)), (.ow (.cons I Z8)), (.ow (.cons I (.cons I (.cons I (.cons I (.cons I (.cons I Z19))))))), (.ow (.cons I (.cons I (.cons I (.cons I Z19))))), (.ow (.cons (.sl (.cons I (.cons I Z19))) (.cons I Z9))), (.ow (.one I))])), (.box Z4), (.box Z4), (.box Z4), (.box Z4), (.box (shps [(.ow Z15), (.sl (.cons I (.cons I (.cons I (.cons I (.cons .bool (.cons .bool (.cons I (.cons I Z19))))))))), (.sl (.cons I Z30)), (.sl (.cons I Z8)), (.ow (.cons I (.cons I (.cons I (.cons I (.cons I (.cons I Z19))))))), (.ow (.cons I (.cons I (.cons I (.cons I Z19))))), (.ow (.cons (.sl (.cons I (.cons I Z19))) (.cons I Z9))), (.ow (.one I))])), J, J]) [0, 2, 3, 4, 6, 7, 8, 9, 14] [.exit 6 (shps [(.box Z2), (.box (shps [(.ow Z15), (.ow (.cons I (.cons I (.cons I (.cons I (.cons .bool (.cons .bool (.cons I (.cons I Z19))))))))), (.ow (.cons I Z30)), (.ow (.cons I Z8)), (.ow (.cons I (.cons I (.cons I (.cons I (.cons I (.cons I Z19))))))), (.ow (.cons I (.cons I (.cons I (.cons I Z19))))), (.ow (.cons (.sl (.cons I (.cons I Z19))) (.cons I Z9))), (.ow (.one I))])), (.box Z4), (.box Z4), (.box Z4), (.box Z4), (.box (shps [(.ow Z15), (.sl (.cons I (.cons I (.cons I (.cons I (.cons .bool (.cons .bool (.cons I (.cons I Z19))))))))), (.sl (.cons I Z30)), (.sl (.cons I Z8)), (.ow (.cons I (.cons I (.cons I (.cons I (.cons I (.cons I Z19))))))), (.ow (.cons I (.cons I (.cons I (.cons I Z19))))), (.ow (.cons (.sl (.cons I (.cons I Z19))) (.cons I Z9))), (.ow (.one I))])), J]) [0, 2, 3, 4, 6, 7, 8, 9]] gcf_4090F) :: gcfk3
theorem gcfc4 : CutsOk tP gcfC gcfB gcfk4 :=
 CutsOk.loop tM rfl gcfL gcfc3 _ _ _ _ _ (by kernel_rfl) (by kernel_rfl) fun x => by kernel_rfl
def gcfk5 : Cs := (2095690, loopOf (shps [(.box Z2), (.box (shps [(.ow Z15), (.ow (.cons I (.cons I (.cons I (.cons I (.cons .bool (.cons .bool (.cons I (.cons I Z19))))))))), (.ow (.cons I Z30)), (.ow (.cons I Z8)), (.ow (.cons I (.cons I (.cons I (.cons I (.cons I (.cons I Z19))))))), (.ow (.cons I (.cons I (.cons I (.cons I Z19))))), (.ow (.cons (.sl (.cons I (.cons I Z19))) (.cons I Z9))), (.ow (.one I))])), (.box Z4), (.box Z4), (.box Z4), (.box Z4), (.box (shps [(.ow Z15), (.sl (.cons I (.cons I (.cons I (.cons I (.cons .bool (.cons .bool (.cons I (.cons I Z19))))))))), (.sl (.cons I Z30)), (.sl (.cons I Z8)), (.ow (.cons I (.cons I (.cons I (.cons I (.cons I (.cons I Z19))))))), (.ow (.cons I (.cons I (.cons I (.cons I Z19))))), (.ow (.cons (.sl (.cons I (.cons I Z19))) (.cons I Z9))), (.ow (.one I))])), J, J, (.box (shps [(.ow (.cons I (.cons I Z19))), J, (.ow (.one I)), J])), J]) [0, 2, 3, 4, 6, 7, 8, 9, 15, 16, 17] [.exit 10 (shps [(.box Z2), (.box (shps [(.ow Z15), (.ow (.cons I (.cons I (.cons I (.cons I (.cons .bool (.cons .bool (.cons I (.cons I Z19))))))))), (.ow (.cons I Z30)), (.ow (.cons I Z8)), (.ow (.cons I (.cons I (.cons I (.cons I (.cons I (.cons I Z19))))))), (.ow (.cons I (.cons I (.cons I (.cons I Z19))))), (.ow (.cons (.sl (.cons I (.cons I Z19))) (.cons I Z9))), (.ow (.one I))])), (.box Z4), (.box Z4), (.box Z4), (.box Z4), (.box (shps [(.ow Z15), (.sl (.cons I (.cons I (.cons I (.cons I (.cons .bool (.cons .bool (.cons I (.cons I Z19))))))))), (.sl (.cons I Z30)), (.sl (.cons I Z8)), (.ow (.cons I (.cons I (.cons I (.cons I (.cons I (.cons I Z19))))))), (.ow (.cons I (.cons I (.cons I (.cons I Z19))))), (.ow (.cons (.sl (.cons I (.cons I Z19))) (.cons I Z9))), (.ow (.one I))])), J, J, (.box (shps [(.ow (.cons I (.cons I Z19))), J, (.ow (.one I)), J]))]) [0, 2, 3, 4, 6, 7, 8, 9, 15, 16]] gcf_2095690F) :: gcfk4
theorem gcfc5 : CutsOk tP gcfC gcfB gcfk5 :=
 CutsOk.loop tM rfl gcfL gcfc4 _ _ _ _ _ (by kernel_rfl) (by kernel_rfl) fun x => by kernel_rfl
def gcfk6 : Cs := (8186, loopOf (shps [(.box Z2), (.box (shps [(.ow Z15), (.ow (.cons I (.cons I (.cons I (.cons I (.cons .bool (.cons .bool (.cons I (.cons I Z19))))))))), (.ow (.cons I Z30)), (.ow (.cons I Z8)), (.ow (.cons I (.cons I (.cons I (.cons I (.cons I (.cons I Z19))))))), (.ow (.cons I (.cons I (.cons I (.cons I Z19))))), (.ow (.cons (.sl (.cons I (.cons I Z19))) (.cons I Z9))), (.ow (.one I))])), (.box Z4), (.box Z4), (.box Z4), (.box Z4), (.box (shps [(.ow Z15), (.sl (.cons I (.cons I (.cons I (.cons I (.cons .bool (.cons .bool (.cons I (.cons I Z19))))))))), (.sl (.cons I Z30)), (.sl (.cons I Z8)), (.ow (.cons I (.cons I (.cons I (.cons I (.cons I (.cons I Z19))))))), (.ow (.cons I (.cons I (.cons I (.cons I Z19))))), (.ow (.cons (.sl (.cons I (.cons I Z19))) (.cons I Z9))), (.ow (.one I))])), J, J]) [0, 2, 3, 4, 6, 7, 8, 9, 15] [.exit 8 (shps [(.box Z2), (.box (shps [(.ow Z15), (.ow (.cons I (.cons I (.cons I (.cons I (.cons .bool (.cons .bool (.cons I (.cons I Z19))))))))), (.ow (.cons I Z30)), (.ow (.cons I Z8)), (.ow (.cons I (.cons I (.cons I (.cons I (.cons I (.cons I Z19))))))), (.ow (.cons I (.cons I (.cons I (.cons I Z19))))), (.ow (.cons (.sl (.cons I (.cons I Z19))) (.cons I Z9))), (.ow (.one I))])), (.box Z4), (.box Z4), (.box Z4), (.box Z4), (.box (shps [(.ow Z15), (.sl (.cons I (.cons I (.cons I (.cons I (.cons .bool (.cons .bool (.cons I (.cons I Z19))))))))), (.sl (.cons I Z30)), (.sl (.cons I Z8)), (.ow (.cons I (.cons I (.cons I (.cons I (.cons I (.cons I Z19))))))), (.ow (.cons I (.cons I (.cons I (.cons I Z19))))), (.ow (.cons (.sl (.cons I (.cons I Z19))) (.cons I Z9))), (.ow (.one I))]))]) [0, 2, 3, 4, 6, 7, 8]] gcf_8186F) :: gcfk5
theorem gcfc6 : CutsOk tP gcfC gcfB gcfk6 :=
 CutsOk.loop tM rfl gcfL gcfc5 _ _ _ _ _ (by kernel_rfl) (by kernel_rfl) fun x => by kernel_rfl
def gcfk7 : Cs := (31, cutOf (shps [(.box Z2), (.box (shps [(.ow Z15), (.ow (.cons I (.cons I (.cons I (.cons I (.cons .bool (.cons .bool (.cons I (.cons I Z19))))))))), (.ow (.cons I Z30)), (.ow (.cons I Z8)), (.ow (.cons I (.cons I (.cons I (.cons I (.cons I (.cons I Z19))))))), (.ow (.cons I (.cons I (.cons I (.cons I Z19))))), (.ow (.cons (.sl (.cons I (.cons I Z19))) (.cons I Z9))), (.ow (.one I))])), (.box Z4), (.box Z4), (.box (shps [.junk, (.sl (.cons I (.cons I (.cons I (.cons I (.cons .bool (.cons .bool (.cons I (.cons I Z19))))))))), (.sl (.cons I Z30)), (.sl (.cons I Z8))])), (.box Z4), (.box Z4), (.box (shps [(.ow Z15), (.sl (.cons I (.cons I (.cons I (.cons I (.cons .bool (.cons .bool (.cons I (.cons I Z19))))))))), (.sl (.cons I Z30)), (.sl (.cons I Z8)), (.ow (.cons I (.cons I (.cons I (.cons I (.cons I (.cons I Z19))))))), (.ow (.cons I (.cons I (.cons I (.cons I Z19))))), (.ow (.cons (.sl (.cons I (.cons I Z19))) (.cons I Z9))), (.ow (.one I))]))]) [0, 2, 3, 4, 5, 6, 7, 8] [.ret (shps [(.box Z2), (.box (shps [(.ow Z15), (.sl (.cons I (.cons I (.cons I (.cons I (.cons .bool (.cons .bool (.cons I (.cons I Z19))))))))), (.sl (.cons I Z30)), (.sl (.cons I Z8)), (.ow (.cons I (.cons I (.cons I (.cons I (.cons I (.cons I Z19))))))), (.ow (.cons I (.cons I (.cons I (.cons I Z19))))), (.ow (.cons (.sl (.cons I (.cons I Z19))) (.cons I Z9))), (.ow (.one I))])), (.box Z4), (.box Z4)]) [0, 2, 3, 4]] fun x => gcf_31 x.1.1 x.1.2.1 x.2.1.1 x.2.1.2.1 x.2.1.2.2.1 x.2.1.2.2.2.1 x.2.1.2.2.2.2.1 x.2.1.2.2.2.2.2.1 x.2.1.2.2.2.2.2.2.1 x.2.1.2.2.2.2.2.2.2.1 x.2.2.1.1 x.2.2.1.2.1 x.2.2.2.1.1 x.2.2.2.1.2.1 x.2.2.2.2.1.2.1 x.2.2.2.2.1.2.2.1 x.2.2.2.2.1.2.2.2.1 x.2.2.2.2.2.1.1 x.2.2.2.2.2.1.2.1 x.2.2.2.2.2.2.1.1 x.2.2.2.2.2.2.1.2.1 x.2.2.2.2.2.2.2.1.1 x.2.2.2.2.2.2.2.1.2.1 x.2.2.2.2.2.2.2.1.2.2.1 x.2.2.2.2.2.2.2.1.2.2.2.1 x.2.2.2.2.2.2.2.1.2.2.2.2.1 x.2.2.2.2.2.2.2.1.2.2.2.2.2.1 x.2.2.2.2.2.2.2.1.2.2.2.2.2.2.1 x.2.2.2.2.2.2.2.1.2.2.2.2.2.2.2.1) :: gcfk6
theorem gcfc7 : CutsOk tP gcfC gcfB gcfk7 :=
 CutsOk.cut tM rfl gcfL gcfc6 _ _ _ _ _ (by kernel_rfl) fun x => by kernel_rfl
def gcfE : Entry := ⟨12, gcfa, (.tup (shps [(.agg (shps [(.ow Z15), (.sl (.cons I (.cons I (.cons I (.cons I (.cons .bool (.cons .bool (.cons I (.cons I Z19))))))))), (.sl (.cons I Z30)), (.sl (.cons I Z8)), (.ow (.cons I (.cons I (.cons I (.cons I (.cons I (.cons I Z19))))))), (.ow (.cons I (.cons I (.cons I (.cons I Z19))))), (.ow (.cons (.sl (.cons I (.cons I Z19))) (.cons I Z9))), (.ow (.one I))])), (.agg Z4), (.agg Z4)])), gcfo, fun x => gcf x.1.1 x.1.2.1⟩
theorem gcfK : EntryOk tP gcfE :=
 entry_ok tM rfl gcfL func12 (by kernel_rfl) (by kernel_rfl) gcfc7 [] _ _ _ _ (fun x => by kernel_rfl) fun x => by kernel_rfl
def gcgC : Ctx := ⟨tP, 6, 1, [(1, [3, 4, 5])], [], []⟩
def gcgB := bd f26
def gcga : Shps := (shps [(.box Z2)])
def gcgo : Shps := (shps [(.box Z2)])
theorem gcgL : Ok [gbkE] := kc gbkK k0
def gcgE : Entry := ⟨26, gcga, J, gcgo, fun x => gcg x.1.1 x.1.2.1⟩
theorem gcgK : EntryOk tP gcgE :=
 entry_ok tM rfl gcgL func26 (by kernel_rfl) (by kernel_rfl) (CutsOk.nil (C := gcgC) (root := gcgB)) [] _ _ _ _ (fun x => by kernel_rfl) fun x => by kernel_rfl
def gchC : Ctx := ⟨tP, 16, 0, [(1, [5]), (3, [7, 8, 9]), (4, [10]), (5, [12, 13, 14]), (6, [15])], [], []⟩
def gchB := bd f19
def gcha : Shps := (shps [J, J])
def gcho : Shps := (shps [])
def gchE : Entry := ⟨19, gcha, J, gcho, fun x => gch x.1 x.2.1⟩
theorem gchK : EntryOk tP gchE :=
 entry_ok tM rfl k0 func19 (by kernel_rfl) (by kernel_rfl) (CutsOk.nil (C := gchC) (root := gchB)) [] _ _ _ _ (fun x => by kernel_rfl) fun x => by kernel_rfl
def gciC : Ctx := ⟨tP, 24, 0, [(1, [7, 8, 9, 10, 11, 12, 13, 14, 15, 16, 17, 18, 19, 20, 21, 22, 23])], [], []⟩
def gciB := bd f114
def gcia : Shps := (shps [(.agg (shps [J, J])), J, J])
def gcio : Shps := (shps [])
def gciE : Entry := ⟨114, gcia, .bool, gcio, fun x => gci x.1.1 x.1.2.1 x.2.1 x.2.2.1⟩
theorem gciK : EntryOk tP gciE :=
 entry_ok tM rfl k0 func114 (by kernel_rfl) (by kernel_rfl) (CutsOk.nil (C := gciC) (root := gciB)) [] _ _ _ _ (fun x => by kernel_rfl) fun x => by kernel_rfl
def gcjC : Ctx := ⟨tP, 109, 0, [(1, [7, 8, 9, 10, 11, 12, 13, 14, 15]), (4, [17, 18, 19, 20]), (6, [24, 25, 26, 27, 28, 29]), (7, [30, 31, 32, 33, 34]), (5, [22, 23]), (10, [36, 37, 38, 39]), (12, [43, 44, 45, 46, 47]), (13, [48, 49, 50, 51, 52, 53, 54, 55, 56, 57, 58, 59, 60, 61, 62, 63, 64, 65, 66, 67, 68, 69, 70, 71, 72, 73, 74, 75, 76, 77]), (15, [79, 80, 81, 82, 83, 84, 85, 86, 87, 88, 89, 90, 91, 92, 93, 94, 95, 96, 97, 98, 99, 100, 101, 102, 103, 104, 105, 106, 107]), (11, [41, 42])], [], []⟩
def gcjB := bd f82
def gcja : Shps := (shps [(.agg (shps [(.sl Z15), (.sl (.cons I (.cons I (.cons I (.cons I (.cons .bool (.cons .bool (.cons I (.cons I Z19)))))))))]))])
def gcjo : Shps := (shps [])
theorem gcjL : Ok [gciE] := kc gciK k0
def gcjk1 : Cs := (58, loopOf (shps [(.box (shps [(.sl Z15), (.sl (.cons I (.cons I (.cons I (.cons I (.cons .bool (.cons .bool (.cons I (.cons I Z19)))))))))])), J]) [1, 3] [.ret (shps [J]) [2], .exit 0 (shps [(.box (shps [(.sl Z15), (.sl (.cons I (.cons I (.cons I (.cons I (.cons .bool (.cons .bool (.cons I (.cons I Z19)))))))))]))]) [1]] gcj_58F) :: []
theorem gcjc1 : CutsOk tP gcjC gcjB gcjk1 :=
 CutsOk.loop tM rfl gcjL .nil _ _ _ _ _ (by kernel_rfl) (by kernel_rfl) fun x => by kernel_rfl
def gcjk2 : Cs := (122, loopOf (shps [(.box (shps [(.sl Z15), (.sl (.cons I (.cons I (.cons I (.cons I (.cons .bool (.cons .bool (.cons I (.cons I Z19)))))))))])), J]) [1, 5] [.ret (shps [J]) [2], .exit 2 (shps []) []] gcj_122F) :: gcjk1
theorem gcjc2 : CutsOk tP gcjC gcjB gcjk2 :=
 CutsOk.loop tM rfl gcjL gcjc1 _ _ _ _ _ (by kernel_rfl) (by kernel_rfl) fun x => by kernel_rfl
def gcjE : Entry := ⟨82, gcja, J, gcjo, fun x => gcj x.1.1 x.1.2.1⟩
theorem gcjK : EntryOk tP gcjE :=
 entry_ok tM rfl gcjL func82 (by kernel_rfl) (by kernel_rfl) gcjc2 [] _ _ _ _ (fun x => by kernel_rfl) fun x => by kernel_rfl
def gckC : Ctx := ⟨tP, 74, 0, [(1, [5, 6]), (3, [8, 9, 10, 11, 12, 13, 14, 15, 16]), (6, [18, 19, 20, 21]), (8, [25, 26, 27, 28, 29]), (9, [30, 31, 32, 33, 34, 35, 36, 37, 38, 39, 40, 41, 42, 43, 44, 45, 46]), (11, [48, 49, 50, 51, 52, 53, 54, 55, 56, 57, 58, 59, 60, 61, 62, 63, 64, 65, 66, 67, 68, 69, 70, 71, 72]), (7, [23, 24])], [], []⟩
def gckB := bd f83
def gcka : Shps := (shps [(.agg Z23)])
def gcko : Shps := (shps [])
def gckk1 : Cs := (122, loopOf (shps [(.box Z23), J]) [1, 3] [.ret (shps [J]) [2], .exit 0 (shps []) []] gck_122F) :: []
theorem gckc1 : CutsOk tP gckC gckB gckk1 :=
 CutsOk.loop tM rfl k0 .nil _ _ _ _ _ (by kernel_rfl) (by kernel_rfl) fun x => by kernel_rfl
def gckE : Entry := ⟨83, gcka, J, gcko, fun x => gck x.1.1 x.1.2.1 x.1.2.2.1 x.1.2.2.2.1⟩
theorem gckK : EntryOk tP gckE :=
 entry_ok tM rfl k0 func83 (by kernel_rfl) (by kernel_rfl) gckc1 [] _ _ _ _ (fun x => by kernel_rfl) fun x => by kernel_rfl
def gclC : Ctx := ⟨tP, 104, 0, [(1, [7, 8]), (4, [10, 11, 12]), (6, [16, 17, 18, 19]), (7, [20, 21]), (9, [23, 24, 25, 26, 27, 28, 29, 30, 31]), (12, [33, 34, 35, 36]), (14, [40, 41, 42, 43, 44, 45, 46, 47, 48, 49, 50, 51, 52]), (13, [38, 39]), (17, [54, 55, 56, 57]), (19, [61, 62, 63, 64, 65, 66, 67, 68, 69, 70, 71]), (18, [59, 60]), (21, [73, 74, 75, 76, 77, 78, 79, 80, 81, 82, 83, 84, 85, 86, 87, 88, 89, 90, 91, 92, 93, 94, 95, 96, 97, 98, 99, 100, 101, 102]), (5, [14, 15])], [], []⟩
def gclB := bd f84
def gcla : Shps := (shps [(.sl (.cons I Z8))])
def gclo : Shps := (shps [])
def gclk1 : Cs := (59706, loopOf (shps [(.sl (.cons I Z8)), J, (.box Z11), J]) [0, 3, 4, 5] [.ret (shps [J]) [2], .exit 2 (shps [(.sl (.cons I Z8)), J, (.box Z11)]) [0, 3, 4]] gcl_59706F) :: []
theorem gclc1 : CutsOk tP gclC gclB gclk1 :=
 CutsOk.loop tM rfl k0 .nil _ _ _ _ _ (by kernel_rfl) (by kernel_rfl) fun x => by kernel_rfl
def gclk2 : Cs := (119418, loopOf (shps [(.sl (.cons I Z8)), J, (.box Z11), J]) [0, 3, 4, 6] [.ret (shps [J]) [2], .exit 4 (shps [(.sl (.cons I Z8)), J, (.box Z11)]) [0, 3, 4]] gcl_119418F) :: gclk1
theorem gclc2 : CutsOk tP gclC gclB gclk2 :=
 CutsOk.loop tM rfl k0 gclc1 _ _ _ _ _ (by kernel_rfl) (by kernel_rfl) fun x => by kernel_rfl
def gclk3 : Cs := (58, loopOf (shps [(.sl (.cons I Z8)), J]) [0, 3] [.ret (shps [J]) [2], .exit 0 (shps []) []] gcl_58F) :: gclk2
theorem gclc3 : CutsOk tP gclC gclB gclk3 :=
 CutsOk.loop tM rfl k0 gclc2 _ _ _ _ _ (by kernel_rfl) (by kernel_rfl) fun x => by kernel_rfl
def gclE : Entry := ⟨84, gcla, J, gclo, fun x => gcl x.1⟩
theorem gclK : EntryOk tP gclE :=
 entry_ok tM rfl k0 func84 (by kernel_rfl) (by kernel_rfl) gclc3 [] _ _ _ _ (fun x => by kernel_rfl) fun x => by kernel_rfl
def gcmC : Ctx := ⟨tP, 69, 0, [(1, [8, 9, 10]), (2, [11]), (3, [13]), (4, [14, 15, 16]), (7, [18, 19, 20, 21]), (9, [25, 26, 27, 28, 29, 30]), (10, [31]), (11, [33]), (12, [34, 35, 36, 37, 38, 39, 40, 41, 42, 43]), (8, [23, 24]), (14, [45, 46, 47]), (15, [48]), (16, [50]), (18, [51, 52, 53, 54]), (20, [58, 59, 60, 61, 62, 63, 64, 65, 66, 67]), (19, [56, 57])], [], []⟩
def gcmB := bd f48
def gcma : Shps := (shps [(.agg (shps [(.sl Z15), (.sl (.cons I (.cons I (.cons I (.cons I (.cons .bool (.cons .bool (.cons I (.cons I Z19))))))))), (.sl (.cons I Z30)), (.sl (.cons I Z8))]))])
def gcmo : Shps := (shps [])
theorem gcmL : Ok [gcjE, gckE, gclE] := kc gcjK (kc gckK (kc gclK k0))
def gcmk1 : Cs := (122, loopOf (shps [(.box (shps [(.sl Z15), (.sl (.cons I (.cons I (.cons I (.cons I (.cons .bool (.cons .bool (.cons I (.cons I Z19))))))))), (.sl (.cons I Z30)), (.sl (.cons I Z8))])), J]) [1, 4] [.ret (shps [J]) [2], .exit 0 (shps [(.box (shps [(.sl Z15), (.sl (.cons I (.cons I (.cons I (.cons I (.cons .bool (.cons .bool (.cons I (.cons I Z19))))))))), (.sl (.cons I Z30)), (.sl (.cons I Z8))]))]) [1]] gcm_122F) :: []
theorem gcmc1 : CutsOk tP gcmC gcmB gcmk1 :=
 CutsOk.loop tM rfl gcmL .nil _ _ _ _ _ (by kernel_rfl) (by kernel_rfl) fun x => by kernel_rfl
def gcmk2 : Cs := (506, loopOf (shps [(.box (shps [(.sl Z15), (.sl (.cons I (.cons I (.cons I (.cons I (.cons .bool (.cons .bool (.cons I (.cons I Z19))))))))), (.sl (.cons I Z30)), (.sl (.cons I Z8))])), J]) [1, 7] [.ret (shps [J]) [2], .exit 2 (shps []) []] gcm_506F) :: gcmk1
theorem gcmc2 : CutsOk tP gcmC gcmB gcmk2 :=
 CutsOk.loop tM rfl gcmL gcmc1 _ _ _ _ _ (by kernel_rfl) (by kernel_rfl) fun x => by kernel_rfl
def gcmE : Entry := ⟨48, gcma, J, gcmo, fun x => gcm x.1.1 x.1.2.1 x.1.2.2.1 x.1.2.2.2.1⟩
theorem gcmK : EntryOk tP gcmE :=
 entry_ok tM rfl gcmL func48 (by kernel_rfl) (by kernel_rfl) gcmc2 [] _ _ _ _ (fun x => by kernel_rfl) fun x => by kernel_rfl
def gcnC : Ctx := ⟨tP, 15, 0, [(1, [7, 8, 9, 10, 11, 12, 13, 14])], [], []⟩
def gcnB := bd f88
def gcna : Shps := Z21
def gcno : Shps := (shps [])
def gcnE : Entry := ⟨88, gcna, .bool, gcno, fun x => gcn x.1 x.2.1 x.2.2.1⟩
theorem gcnK : EntryOk tP gcnE :=
 entry_ok tM rfl k0 func88 (by kernel_rfl) (by kernel_rfl) (CutsOk.nil (C := gcnC) (root := gcnB)) [] _ _ _ _ (fun x => by kernel_rfl) fun x => by kernel_rfl
def gcoC : Ctx := ⟨tP, 46, 0, [(1, [3, 4, 5]), (3, [7, 8, 9, 10, 11, 12, 13, 14, 15, 16, 17, 18, 19, 20, 21, 22, 23, 24, 25, 26, 27, 28, 29, 30, 31, 32, 33, 34, 35, 36, 37, 38, 39, 40, 41, 42, 43, 44])], [], []⟩
def gcoB := bd f85
def gcoa : Shps := (shps [(.agg Z10)])
def gcoo : Shps := (shps [])
theorem gcoL : Ok [gcnE] := kc gcnK k0
def gcoE : Entry := ⟨85, gcoa, J, gcoo, fun x => gco x.1.1 x.1.2.1 x.1.2.2.1 x.1.2.2.2.1 x.1.2.2.2.2.1 x.1.2.2.2.2.2.1 x.1.2.2.2.2.2.2.1 x.1.2.2.2.2.2.2.2.1⟩
theorem gcoK : EntryOk tP gcoE :=
 entry_ok tM rfl gcoL func85 (by kernel_rfl) (by kernel_rfl) (CutsOk.nil (C := gcoC) (root := gcoB)) [] _ _ _ _ (fun x => by kernel_rfl) fun x => by kernel_rfl
def gcpC : Ctx := ⟨tP, 62, 0, [(2, [8, 9, 10, 11]), (4, [15, 16, 17, 18, 19]), (5, [20, 21]), (6, [22]), (7, [24]), (8, [25, 26, 27, 28, 29]), (9, [30, 31]), (10, [33, 34, 35, 36]), (11, [37, 38]), (12, [40, 41, 42, 43]), (13, [44, 45, 46]), (16, [48, 49]), (18, [53, 54, 55, 56, 57, 58, 59, 60]), (17, [51, 52]), (3, [13, 14])], [], []⟩
def gcpB := bd f49
def gcpa : Shps := (shps [(.agg (shps [(.sl Z15), (.sl (.cons I (.cons I (.cons I (.cons I (.cons .bool (.cons .bool (.cons I (.cons I Z19))))))))), (.sl (.cons I Z30)), (.sl (.cons I Z8)), (.sl (.cons I (.cons I (.cons I (.cons I (.cons I (.cons I Z19))))))), (.sl (.cons I (.cons I (.cons I (.cons I Z19))))), (.sl (.cons (.sl (.cons I (.cons I Z19))) (.cons I Z9))), (.sl (.one I))]))])
def gcpo : Shps := (shps [])
theorem gcpL : Ok [gcoE] := kc gcoK k0
def gcpk1 : Cs := (107774, loopOf (shps [(.box (shps [(.sl Z15), (.sl (.cons I (.cons I (.cons I (.cons I (.cons .bool (.cons .bool (.cons I (.cons I Z19))))))))), (.sl (.cons I Z30)), (.sl (.cons I Z8)), (.sl (.cons I (.cons I (.cons I (.cons I (.cons I (.cons I Z19))))))), (.sl (.cons I (.cons I (.cons I (.cons I Z19))))), (.sl (.cons (.sl (.cons I (.cons I Z19))) (.cons I Z9))), (.sl (.one I))])), J, (.box Z10), J]) [1, 3, 4, 7] [.ret (shps [J]) [2], .exit 2 (shps [(.box (shps [(.sl Z15), (.sl (.cons I (.cons I (.cons I (.cons I (.cons .bool (.cons .bool (.cons I (.cons I Z19))))))))), (.sl (.cons I Z30)), (.sl (.cons I Z8)), (.sl (.cons I (.cons I (.cons I (.cons I (.cons I (.cons I Z19))))))), (.sl (.cons I (.cons I (.cons I (.cons I Z19))))), (.sl (.cons (.sl (.cons I (.cons I Z19))) (.cons I Z9))), (.sl (.one I))])), J]) [1, 3]] gcp_107774F) :: []
theorem gcpc1 : CutsOk tP gcpC gcpB gcpk1 :=
 CutsOk.loop tM rfl gcpL .nil _ _ _ _ _ (by kernel_rfl) (by kernel_rfl) fun x => by kernel_rfl
def gcpk2 : Cs := (13471, cutOf (shps [(.box (shps [(.sl Z15), (.sl (.cons I (.cons I (.cons I (.cons I (.cons .bool (.cons .bool (.cons I (.cons I Z19))))))))), (.sl (.cons I Z30)), (.sl (.cons I Z8)), (.sl (.cons I (.cons I (.cons I (.cons I (.cons I (.cons I Z19))))))), (.sl (.cons I (.cons I (.cons I (.cons I Z19))))), (.sl (.cons (.sl (.cons I (.cons I Z19))) (.cons I Z9))), (.sl (.one I))])), J, (.box Z10), J]) [1, 3, 4, 6] [.ret (shps [J]) [2], .norm (shps [(.box (shps [(.sl Z15), (.sl (.cons I (.cons I (.cons I (.cons I (.cons .bool (.cons .bool (.cons I (.cons I Z19))))))))), (.sl (.cons I Z30)), (.sl (.cons I Z8)), (.sl (.cons I (.cons I (.cons I (.cons I (.cons I (.cons I Z19))))))), (.sl (.cons I (.cons I (.cons I (.cons I Z19))))), (.sl (.cons (.sl (.cons I (.cons I Z19))) (.cons I Z9))), (.sl (.one I))])), J]) [1, 3]] fun x => gcp_13471 x.1.1 x.1.2.1 x.1.2.2.1 x.1.2.2.2.1 x.1.2.2.2.2.1 x.1.2.2.2.2.2.1 x.1.2.2.2.2.2.2.1 x.1.2.2.2.2.2.2.2.1 x.2.1 x.2.2.1.1 x.2.2.1.2.1 x.2.2.1.2.2.1 x.2.2.1.2.2.2.1 x.2.2.1.2.2.2.2.1 x.2.2.1.2.2.2.2.2.1 x.2.2.1.2.2.2.2.2.2.1 x.2.2.1.2.2.2.2.2.2.2.1 x.2.2.2.1) :: gcpk1
theorem gcpc2 : CutsOk tP gcpC gcpB gcpk2 :=
 CutsOk.cut tM rfl gcpL gcpc1 _ _ _ _ _ (by kernel_rfl) fun x => by kernel_rfl
def gcpk3 : Cs := (6735, cutOf (shps [(.box (shps [(.sl Z15), (.sl (.cons I (.cons I (.cons I (.cons I (.cons .bool (.cons .bool (.cons I (.cons I Z19))))))))), (.sl (.cons I Z30)), (.sl (.cons I Z8)), (.sl (.cons I (.cons I (.cons I (.cons I (.cons I (.cons I Z19))))))), (.sl (.cons I (.cons I (.cons I (.cons I Z19))))), (.sl (.cons (.sl (.cons I (.cons I Z19))) (.cons I Z9))), (.sl (.one I))])), J, (.box Z10), J]) [1, 3, 4, 6] [.ret (shps [J]) [2], .norm (shps [(.box (shps [(.sl Z15), (.sl (.cons I (.cons I (.cons I (.cons I (.cons .bool (.cons .bool (.cons I (.cons I Z19))))))))), (.sl (.cons I Z30)), (.sl (.cons I Z8)), (.sl (.cons I (.cons I (.cons I (.cons I (.cons I (.cons I Z19))))))), (.sl (.cons I (.cons I (.cons I (.cons I Z19))))), (.sl (.cons (.sl (.cons I (.cons I Z19))) (.cons I Z9))), (.sl (.one I))])), J]) [1, 3]] fun x => gcp_6735 x.1.1 x.1.2.1 x.1.2.2.1 x.1.2.2.2.1 x.1.2.2.2.2.1 x.1.2.2.2.2.2.1 x.1.2.2.2.2.2.2.1 x.1.2.2.2.2.2.2.2.1 x.2.1 x.2.2.1.1 x.2.2.1.2.1 x.2.2.1.2.2.1 x.2.2.1.2.2.2.1 x.2.2.1.2.2.2.2.1 x.2.2.1.2.2.2.2.2.1 x.2.2.1.2.2.2.2.2.2.1 x.2.2.1.2.2.2.2.2.2.2.1 x.2.2.2.1) :: gcpk2
theorem gcpc3 : CutsOk tP gcpC gcpB gcpk3 :=
 CutsOk.cut tM rfl gcpL gcpc2 _ _ _ _ _ (by kernel_rfl) fun x => by kernel_rfl
def gcpk4 : Cs := (26, loopOf (shps [(.box (shps [(.sl Z15), (.sl (.cons I (.cons I (.cons I (.cons I (.cons .bool (.cons .bool (.cons I (.cons I Z19))))))))), (.sl (.cons I Z30)), (.sl (.cons I Z8)), (.sl (.cons I (.cons I (.cons I (.cons I (.cons I (.cons I Z19))))))), (.sl (.cons I (.cons I (.cons I (.cons I Z19))))), (.sl (.cons (.sl (.cons I (.cons I Z19))) (.cons I Z9))), (.sl (.one I))])), J]) [1, 3] [.ret (shps [J]) [2], .exit 0 (shps []) []] gcp_26F) :: gcpk3
theorem gcpc4 : CutsOk tP gcpC gcpB gcpk4 :=
 CutsOk.loop tM rfl gcpL gcpc3 _ _ _ _ _ (by kernel_rfl) (by kernel_rfl) fun x => by kernel_rfl
def gcpE : Entry := ⟨49, gcpa, J, gcpo, fun x => gcp x.1.1 x.1.2.1 x.1.2.2.1 x.1.2.2.2.1 x.1.2.2.2.2.1 x.1.2.2.2.2.2.1 x.1.2.2.2.2.2.2.1 x.1.2.2.2.2.2.2.2.1⟩
theorem gcpK : EntryOk tP gcpE :=
 entry_ok tM rfl gcpL func49 (by kernel_rfl) (by kernel_rfl) gcpc4 [] _ _ _ _ (fun x => by kernel_rfl) fun x => by kernel_rfl
def gcqC : Ctx := ⟨tP, 28, 0, [(1, [3, 4, 5, 6, 7, 8, 9, 10, 11, 12, 13, 14, 15, 16, 17, 18, 19, 20, 21, 22, 23, 24, 25, 26])], [], []⟩
def gcqB := bd f86
def gcqa : Shps := (shps [(.agg Z21)])
def gcqo : Shps := (shps [])
def gcqE : Entry := ⟨86, gcqa, J, gcqo, fun x => gcq x.1.1 x.1.2.1 x.1.2.2.1⟩
theorem gcqK : EntryOk tP gcqE :=
 entry_ok tM rfl k0 func86 (by kernel_rfl) (by kernel_rfl) (CutsOk.nil (C := gcqC) (root := gcqB)) [] _ _ _ _ (fun x => by kernel_rfl) fun x => by kernel_rfl
def gcrC : Ctx := ⟨tP, 67, 0, [(1, [5]), (3, [8]), (4, [9]), (5, [10]), (6, [11]), (7, [12, 13, 14, 15, 16, 17, 18, 19, 20, 21, 22, 23, 24, 25, 26, 27, 28, 29, 30, 31, 32, 33, 34, 35, 36]), (9, [39]), (10, [40, 41, 42, 43, 44, 45, 46, 47, 48, 49, 50, 51]), (12, [53, 54, 55, 56, 57, 58, 59]), (14, [61, 62]), (15, [64, 65, 66])], [], []⟩
def gcrB := bd f50
def gcra : Shps := (shps [(.agg (shps [(.sl Z15), (.sl (.cons I (.cons I (.cons I (.cons I (.cons .bool (.cons .bool (.cons I (.cons I Z19))))))))), (.sl (.cons I Z30)), (.sl (.cons I Z8)), (.sl (.cons I (.cons I (.cons I (.cons I (.cons I (.cons I Z19))))))), (.sl (.cons I (.cons I (.cons I (.cons I Z19))))), (.sl (.cons (.sl (.cons I (.cons I Z19))) (.cons I Z9))), (.sl (.one I))])), (.agg Z14)])
def gcro : Shps := (shps [])
theorem gcrL : Ok [gcqE] := kc gcqK k0
def gcrk1 : Cs := (53, cutOf (shps [(.box (shps [(.sl Z15), (.sl (.cons I (.cons I (.cons I (.cons I (.cons .bool (.cons .bool (.cons I (.cons I Z19))))))))), (.sl (.cons I Z30)), (.sl (.cons I Z8)), (.sl (.cons I (.cons I (.cons I (.cons I (.cons I (.cons I Z19))))))), (.sl (.cons I (.cons I (.cons I (.cons I Z19))))), (.sl (.cons (.sl (.cons I (.cons I Z19))) (.cons I Z9))), (.sl (.one I))])), (.box Z14), J, .bool]) [2, 3, 6, 7] [.ret (shps [J]) [4], .norm (shps [(.box Z14)]) [3]] fun x => gcr_53 x.1.1 x.1.2.1 x.1.2.2.1 x.1.2.2.2.1 x.1.2.2.2.2.1 x.1.2.2.2.2.2.1 x.1.2.2.2.2.2.2.1 x.1.2.2.2.2.2.2.2.1 x.2.1.1 x.2.1.2.1 x.2.1.2.2.1 x.2.1.2.2.2.1 x.2.1.2.2.2.2.1 x.2.1.2.2.2.2.2.1 x.2.2.1 x.2.2.2.1) :: []
theorem gcrc1 : CutsOk tP gcrC gcrB gcrk1 :=
 CutsOk.cut tM rfl gcrL .nil _ _ _ _ _ (by kernel_rfl) fun x => by kernel_rfl
def gcrk2 : Cs := (7, cutOf (shps [(.box Z14)]) [3] [.ret (shps [J]) [4]] fun x => gcr_7 x.1.1 x.1.2.1 x.1.2.2.1 x.1.2.2.2.1 x.1.2.2.2.2.1 x.1.2.2.2.2.2.1) :: gcrk1
theorem gcrc2 : CutsOk tP gcrC gcrB gcrk2 :=
 CutsOk.cut tM rfl gcrL gcrc1 _ _ _ _ _ (by kernel_rfl) fun x => by kernel_rfl
def gcrE : Entry := ⟨50, gcra, J, gcro, fun x => gcr x.1.1 x.1.2.1 x.1.2.2.1 x.1.2.2.2.1 x.1.2.2.2.2.1 x.1.2.2.2.2.2.1 x.1.2.2.2.2.2.2.1 x.1.2.2.2.2.2.2.2.1 x.2.1.1 x.2.1.2.1 x.2.1.2.2.1 x.2.1.2.2.2.1 x.2.1.2.2.2.2.1 x.2.1.2.2.2.2.2.1⟩
theorem gcrK : EntryOk tP gcrE :=
 entry_ok tM rfl gcrL func50 (by kernel_rfl) (by kernel_rfl) gcrc2 [] _ _ _ _ (fun x => by kernel_rfl) fun x => by kernel_rfl
def gcsC : Ctx := ⟨tP, 116, 0, [(1, [13, 14, 15, 16, 17, 18, 19]), (3, [21, 22, 23, 24]), (4, [25]), (5, [28]), (6, [29, 30, 31, 32, 33, 34, 35, 36, 37, 38, 39, 40, 41, 42, 43, 44, 45]), (8, [47]), (9, [49]), (10, [50, 51, 52, 53, 54, 55, 56, 57, 58, 59, 60, 61, 62, 63]), (12, [65, 66, 67, 68, 69, 70, 71]), (13, [72, 73, 74]), (14, [76]), (15, [77]), (16, [78, 79, 80, 81, 82, 83, 84, 85, 86]), (18, [88, 89, 90, 91, 92, 93, 94]), (19, [95, 96, 97, 98, 99, 100, 101, 102]), (21, [104, 105, 106, 107, 108, 109, 110]), (22, [111, 112, 113, 114, 115])], [], []⟩
def gcsB := bd f99
def gcsa : Shps := (shps [(.sl (.cons I (.cons I Z19))), J])
def gcso : Shps := (shps [])
def gcsR (rec : (List (Int × Int × Int × Int) × Int × Unit) → Option ((Int × Int × Unit) × Unit)) : Entry := ⟨99, gcsa, (.tup (shps [J, J])), gcso, rec⟩
def gcsO (rec : (List (Int × Int × Int × Int) × Int × Unit) → Option ((Int × Int × Unit) × Unit)) : List Entry := [gcsR rec]
theorem gcsL (rec : (List (Int × Int × Int × Int) × Int × Unit) → Option ((Int × Int × Unit) × Unit)) (hrec : EntryOk tP (gcsR rec)) : ∀ e ∈ (gcsO rec), EntryOk tP e := by
 intro e he
 simp only [gcsO, List.mem_cons, List.not_mem_nil, or_false] at he
 rcases he with rfl
 ·exact hrec
def gcsk0 (rec : (List (Int × Int × Int × Int) × Int × Unit) → Option ((Int × Int × Unit) × Unit)) : List (Nat × Cut) := []
theorem gcsc0 (rec : (List (Int × Int × Int × Int) × Int × Unit) → Option ((Int × Int × Unit) × Unit)) (hrec : EntryOk tP (gcsR rec)) : CutsOk tP gcsC gcsB (gcsk0 rec) := CutsOk.nil
def gcs_3935s : Shps := (shps [(.sl (.cons I (.cons I Z19))), J, (.box (shps [J, J, J, J])), .bool])
def gcs_3935w : List Way := [.ret (shps [J, J]) [4, 5], .norm (shps []) []]
def gcsk1 (rec : (List (Int × Int × Int × Int) × Int × Unit) → Option ((Int × Int × Unit) × Unit)) : List (Nat × Cut) := (3935, cutOf gcs_3935s [0, 1, 6, 75] gcs_3935w fun x => gcs_3935 rec x.1 x.2.1 x.2.2.1.1 x.2.2.1.2.1 x.2.2.1.2.2.1 x.2.2.1.2.2.2.1 x.2.2.2.1) :: (gcsk0 rec)
theorem gcsc1 (rec : (List (Int × Int × Int × Int) × Int × Unit) → Option ((Int × Int × Unit) × Unit)) (hrec : EntryOk tP (gcsR rec)) : CutsOk tP gcsC gcsB (gcsk1 rec) :=
 CutsOk.cut tM rfl (gcsL rec hrec) (gcsc0 rec hrec) 3935 gcs_3935s [0, 1, 6, 75] gcs_3935w (fun x => gcs_3935 rec x.1 x.2.1 x.2.2.1.1 x.2.2.1.2.1 x.2.2.1.2.2.1 x.2.2.1.2.2.2.1 x.2.2.2.1) (by kernel_rfl) fun x => by kernel_rfl
theorem gcsKb (rec : (List (Int × Int × Int × Int) × Int × Unit) → Option ((Int × Int × Unit) × Unit)) (hrec : EntryOk tP (gcsR rec)) : EntryOk tP ⟨99, gcsa, (.tup (shps [J, J])), gcso, fun x => gcsb rec x.1 x.2.1⟩ :=
 entry_ok tM rfl (gcsL rec hrec) (fn := f99) func99 (by kernel_rfl) (root := gcsB) (by kernel_rfl) (gcsc1 rec hrec) [] gcsa (.tup (shps [J, J])) gcso (fun x => gcsb rec x.1 x.2.1) (fun x => by kernel_rfl) fun x => by kernel_rfl
theorem gcsKi : ∀ n, EntryOk tP (gcsR (gcsi n))
 | 0 => fun x y h => by cases h
 | n + 1 => gcsKb (gcsi n) (gcsKi n)
def gcsE : Entry := ⟨99, gcsa, (.tup (shps [J, J])), gcso, fun x => gcs x.1 x.2.1⟩
theorem gcsK : EntryOk tP gcsE := gcsKi 1000000
def gctC : Ctx := ⟨tP, 27, 0, [(1, [5, 6, 7, 8, 9, 10, 11]), (3, [13, 14, 15, 16, 17, 18, 19, 20]), (4, [21, 22, 23, 24, 25, 26])], [], []⟩
def gctB := bd f65
def gcta : Shps := (shps [(.sl (.cons I (.cons I Z19)))])
def gcto : Shps := (shps [])
theorem gctL : Ok [gcsE] := kc gcsK k0
def gctE : Entry := ⟨65, gcta, .bool, gcto, fun x => gct x.1⟩
theorem gctK : EntryOk tP gctE :=
 entry_ok tM rfl gctL func65 (by kernel_rfl) (by kernel_rfl) (CutsOk.nil (C := gctC) (root := gctB)) [] _ _ _ _ (fun x => by kernel_rfl) fun x => by kernel_rfl
def gcuC : Ctx := ⟨tP, 30, 0, [(1, [6, 7]), (4, [9, 10, 11]), (6, [15, 16, 17, 18, 19, 20, 21, 22, 23, 24, 25, 26, 27, 28]), (5, [13, 14])], [], []⟩
def gcuB := bd f87
def gcua : Shps := (shps [(.sl (.cons I (.cons I Z19))), J])
def gcuo : Shps := (shps [])
theorem gcuL : Ok [gctE] := kc gctK k0
def gcuk1 : Cs := (58, loopOf (shps [(.sl (.cons I (.cons I Z19))), J, J]) [0, 1, 5] [.ret (shps [J]) [4], .exit 0 (shps []) []] gcu_58F) :: []
theorem gcuc1 : CutsOk tP gcuC gcuB gcuk1 :=
 CutsOk.loop tM rfl gcuL .nil _ _ _ _ _ (by kernel_rfl) (by kernel_rfl) fun x => by kernel_rfl
def gcuE : Entry := ⟨87, gcua, J, gcuo, fun x => gcu x.1 x.2.1⟩
theorem gcuK : EntryOk tP gcuE :=
 entry_ok tM rfl gcuL func87 (by kernel_rfl) (by kernel_rfl) gcuc1 [] _ _ _ _ (fun x => by kernel_rfl) fun x => by kernel_rfl
def gcvC : Ctx := ⟨tP, 78, 0, [(1, [7, 8, 9, 10, 11, 12]), (2, [13]), (3, [15]), (4, [16, 17, 18, 19, 20, 21, 22, 23, 24, 25, 26, 27, 28, 29, 30, 31, 32]), (7, [34, 35, 36, 37]), (9, [41, 42, 43, 44, 45, 46, 47, 48, 49, 50, 51, 52, 53, 54, 55, 56, 57, 58, 59, 60, 61, 62, 63, 64, 65, 66, 67, 68, 69, 70, 71, 72, 73, 74, 75, 76]), (8, [39, 40])], [], []⟩
def gcvB := bd f51
def gcva : Shps := (shps [(.agg (shps [(.sl Z15), (.sl (.cons I (.cons I (.cons I (.cons I (.cons .bool (.cons .bool (.cons I (.cons I Z19))))))))), (.sl (.cons I Z30)), (.sl (.cons I Z8)), (.sl (.cons I (.cons I (.cons I (.cons I (.cons I (.cons I Z19))))))), (.sl (.cons I (.cons I (.cons I (.cons I Z19))))), (.sl (.cons (.sl (.cons I (.cons I Z19))) (.cons I Z9))), (.sl (.one I))])), (.agg (shps [(.sl (.cons I (.cons I Z19))), J, (.sl (.one I)), J]))])
def gcvo : Shps := (shps [])
theorem gcvL : Ok [gcuE] := kc gcuK k0
def gcvk1 : Cs := (122, loopOf (shps [(.box (shps [(.sl Z15), (.sl (.cons I (.cons I (.cons I (.cons I (.cons .bool (.cons .bool (.cons I (.cons I Z19))))))))), (.sl (.cons I Z30)), (.sl (.cons I Z8)), (.sl (.cons I (.cons I (.cons I (.cons I (.cons I (.cons I Z19))))))), (.sl (.cons I (.cons I (.cons I (.cons I Z19))))), (.sl (.cons (.sl (.cons I (.cons I Z19))) (.cons I Z9))), (.sl (.one I))])), (.box (shps [(.sl (.cons I (.cons I Z19))), J, (.sl (.one I)), J])), J]) [2, 3, 6] [.ret (shps [J]) [4], .exit 0 (shps []) []] gcv_122F) :: []
theorem gcvc1 : CutsOk tP gcvC gcvB gcvk1 :=
 CutsOk.loop tM rfl gcvL .nil _ _ _ _ _ (by kernel_rfl) (by kernel_rfl) fun x => by kernel_rfl
def gcvE : Entry := ⟨51, gcva, J, gcvo, fun x => gcv x.1.1 x.1.2.1 x.1.2.2.1 x.1.2.2.2.1 x.1.2.2.2.2.1 x.1.2.2.2.2.2.1 x.1.2.2.2.2.2.2.1 x.1.2.2.2.2.2.2.2.1 x.2.1.1 x.2.1.2.1 x.2.1.2.2.1 x.2.1.2.2.2.1⟩
theorem gcvK : EntryOk tP gcvE :=
 entry_ok tM rfl gcvL func51 (by kernel_rfl) (by kernel_rfl) gcvc1 [] _ _ _ _ (fun x => by kernel_rfl) fun x => by kernel_rfl
def gcwC : Ctx := ⟨tP, 100, 0, [(1, [10, 11, 12]), (2, [13]), (3, [15]), (4, [16, 17, 18, 19, 20, 21, 22, 23, 24, 25, 26, 27, 28, 29, 30, 31, 32, 33, 34, 35, 36]), (6, [38, 39]), (7, [40]), (8, [42]), (10, [43, 44, 45, 46]), (12, [50, 51, 52, 53, 54, 55, 56]), (13, [57]), (14, [59]), (11, [48, 49]), (16, [60, 61, 62, 63]), (18, [67, 68, 69, 70, 71, 72, 73]), (19, [74]), (20, [76]), (17, [65, 66]), (22, [77, 78, 79, 80]), (24, [84, 85, 86, 87, 88, 89, 90, 91, 92, 93, 94, 95, 96, 97, 98]), (23, [82, 83])], [], []⟩
def gcwB := bd f15
def gcwa : Shps := (shps [(.agg (shps [(.sl Z15), (.sl (.cons I (.cons I (.cons I (.cons I (.cons .bool (.cons .bool (.cons I (.cons I Z19))))))))), (.sl (.cons I Z30)), (.sl (.cons I Z8)), (.sl (.cons I (.cons I (.cons I (.cons I (.cons I (.cons I Z19))))))), (.sl (.cons I (.cons I (.cons I (.cons I Z19))))), (.sl (.cons (.sl (.cons I (.cons I Z19))) (.cons I Z9))), (.sl (.one I))]))])
def gcwo : Shps := (shps [])
theorem gcwL : Ok [gcmE, gcpE, gcrE, gcvE] := kc gcmK (kc gcpK (kc gcrK (kc gcvK k0)))
def gcwk1 : Cs := (250, loopOf (shps [(.box (shps [(.sl Z15), (.sl (.cons I (.cons I (.cons I (.cons I (.cons .bool (.cons .bool (.cons I (.cons I Z19))))))))), (.sl (.cons I Z30)), (.sl (.cons I Z8)), (.sl (.cons I (.cons I (.cons I (.cons I (.cons I (.cons I Z19))))))), (.sl (.cons I (.cons I (.cons I (.cons I Z19))))), (.sl (.cons (.sl (.cons I (.cons I Z19))) (.cons I Z9))), (.sl (.one I))])), J]) [1, 5] [.ret (shps [J]) [2], .exit 0 (shps [(.box (shps [(.sl Z15), (.sl (.cons I (.cons I (.cons I (.cons I (.cons .bool (.cons .bool (.cons I (.cons I Z19))))))))), (.sl (.cons I Z30)), (.sl (.cons I Z8)), (.sl (.cons I (.cons I (.cons I (.cons I (.cons I (.cons I Z19))))))), (.sl (.cons I (.cons I (.cons I (.cons I Z19))))), (.sl (.cons (.sl (.cons I (.cons I Z19))) (.cons I Z9))), (.sl (.one I))]))]) [1]] gcw_250F) :: []
theorem gcwc1 : CutsOk tP gcwC gcwB gcwk1 :=
 CutsOk.loop tM rfl gcwL .nil _ _ _ _ _ (by kernel_rfl) (by kernel_rfl) fun x => by kernel_rfl
def gcwk2 : Cs := (506, loopOf (shps [(.box (shps [(.sl Z15), (.sl (.cons I (.cons I (.cons I (.cons I (.cons .bool (.cons .bool (.cons I (.cons I Z19))))))))), (.sl (.cons I Z30)), (.sl (.cons I Z8)), (.sl (.cons I (.cons I (.cons I (.cons I (.cons I (.cons I Z19))))))), (.sl (.cons I (.cons I (.cons I (.cons I Z19))))), (.sl (.cons (.sl (.cons I (.cons I Z19))) (.cons I Z9))), (.sl (.one I))])), J]) [1, 7] [.ret (shps [J]) [2], .exit 2 (shps [(.box (shps [(.sl Z15), (.sl (.cons I (.cons I (.cons I (.cons I (.cons .bool (.cons .bool (.cons I (.cons I Z19))))))))), (.sl (.cons I Z30)), (.sl (.cons I Z8)), (.sl (.cons I (.cons I (.cons I (.cons I (.cons I (.cons I Z19))))))), (.sl (.cons I (.cons I (.cons I (.cons I Z19))))), (.sl (.cons (.sl (.cons I (.cons I Z19))) (.cons I Z9))), (.sl (.one I))]))]) [1]] gcw_506F) :: gcwk1
theorem gcwc2 : CutsOk tP gcwC gcwB gcwk2 :=
 CutsOk.loop tM rfl gcwL gcwc1 _ _ _ _ _ (by kernel_rfl) (by kernel_rfl) fun x => by kernel_rfl
def gcwk3 : Cs := (1018, loopOf (shps [(.box (shps [(.sl Z15), (.sl (.cons I (.cons I (.cons I (.cons I (.cons .bool (.cons .bool (.cons I (.cons I Z19))))))))), (.sl (.cons I Z30)), (.sl (.cons I Z8)), (.sl (.cons I (.cons I (.cons I (.cons I (.cons I (.cons I Z19))))))), (.sl (.cons I (.cons I (.cons I (.cons I Z19))))), (.sl (.cons (.sl (.cons I (.cons I Z19))) (.cons I Z9))), (.sl (.one I))])), J]) [1, 9] [.ret (shps [J]) [2], .exit 4 (shps []) []] gcw_1018F) :: gcwk2
theorem gcwc3 : CutsOk tP gcwC gcwB gcwk3 :=
 CutsOk.loop tM rfl gcwL gcwc2 _ _ _ _ _ (by kernel_rfl) (by kernel_rfl) fun x => by kernel_rfl
def gcwE : Entry := ⟨15, gcwa, J, gcwo, fun x => gcw x.1.1 x.1.2.1 x.1.2.2.1 x.1.2.2.2.1 x.1.2.2.2.2.1 x.1.2.2.2.2.2.1 x.1.2.2.2.2.2.2.1 x.1.2.2.2.2.2.2.2.1⟩
theorem gcwK : EntryOk tP gcwE :=
 entry_ok tM rfl gcwL func15 (by kernel_rfl) (by kernel_rfl) gcwc3 [] _ _ _ _ (fun x => by kernel_rfl) fun x => by kernel_rfl
def gcxC : Ctx := ⟨tP, 74, 0, [(1, [8, 9, 10, 11]), (2, [12]), (3, [15]), (4, [16, 17, 18, 19, 20, 21, 22, 23, 24, 25, 26, 27, 28, 29, 30, 31, 32, 33, 34, 35]), (6, [37, 38, 39, 40, 41]), (7, [43]), (8, [44, 45, 46, 47, 48, 49]), (9, [51]), (10, [52, 53, 54, 55, 56, 57, 58, 59, 60, 61, 62]), (11, [63, 64, 65, 66, 67, 68, 69, 70, 71, 72, 73])], [], []⟩
def gcxB := bd f66
def gcxa : Shps := (shps [(.sl (.cons I (.cons I Z19))), (.sl (.one I)), J])
def gcxo : Shps := (shps [])
def gcxR (rec : (List (Int × Int × Int × Int) × List Int × Int × Unit) → Option (Int × Unit)) : Entry := ⟨66, gcxa, J, gcxo, rec⟩
def gcxO (rec : (List (Int × Int × Int × Int) × List Int × Int × Unit) → Option (Int × Unit)) : List Entry := [gcxR rec]
theorem gcxL (rec : (List (Int × Int × Int × Int) × List Int × Int × Unit) → Option (Int × Unit)) (hrec : EntryOk tP (gcxR rec)) : ∀ e ∈ (gcxO rec), EntryOk tP e := by
 intro e he
 simp only [gcxO, List.mem_cons, List.not_mem_nil, or_false] at he
 rcases he with rfl
 ·exact hrec
def gcxk0 (rec : (List (Int × Int × Int × Int) × List Int × Int × Unit) → Option (Int × Unit)) : List (Nat × Cut) := []
theorem gcxc0 (rec : (List (Int × Int × Int × Int) × List Int × Int × Unit) → Option (Int × Unit)) (hrec : EntryOk tP (gcxR rec)) : CutsOk tP gcxC gcxB (gcxk0 rec) := CutsOk.nil
theorem gcxKb (rec : (List (Int × Int × Int × Int) × List Int × Int × Unit) → Option (Int × Unit)) (hrec : EntryOk tP (gcxR rec)) : EntryOk tP ⟨66, gcxa, J, gcxo, fun x => gcxb rec x.1 x.2.1 x.2.2.1⟩ :=
 entry_ok tM rfl (gcxL rec hrec) (fn := f66) func66 (by kernel_rfl) (root := gcxB) (by kernel_rfl) (gcxc0 rec hrec) [] gcxa J gcxo (fun x => gcxb rec x.1 x.2.1 x.2.2.1) (fun x => by kernel_rfl) fun x => by kernel_rfl
theorem gcxKi : ∀ n, EntryOk tP (gcxR (gcxi n))
 | 0 => fun x y h => by cases h
 | n + 1 => gcxKb (gcxi n) (gcxKi n)
def gcxE : Entry := ⟨66, gcxa, J, gcxo, fun x => gcx x.1 x.2.1 x.2.2.1⟩
theorem gcxK : EntryOk tP gcxE := gcxKi 1000000
def gcyC : Ctx := ⟨tP, 14, 0, [(1, [5, 6]), (3, [8, 9, 10, 11, 12, 13])], [], []⟩
def gcyB := bd f32
def gcya : Shps := (shps [(.sl (.cons I (.cons I Z19))), (.sl (.one I))])
def gcyo : Shps := (shps [])
theorem gcyL : Ok [gctE, gcxE] := kc gctK (kc gcxK k0)
def gcyE : Entry := ⟨32, gcya, J, gcyo, fun x => gcy x.1 x.2.1⟩
theorem gcyK : EntryOk tP gcyE :=
 entry_ok tM rfl gcyL func32 (by kernel_rfl) (by kernel_rfl) (CutsOk.nil (C := gcyC) (root := gcyB)) [] _ _ _ _ (fun x => by kernel_rfl) fun x => by kernel_rfl
def gczC : Ctx := ⟨tP, 95, 0, [(1, [16, 17]), (2, [18]), (3, [20]), (4, [21, 22, 23, 24, 25, 26, 27, 28, 29, 30, 31, 32, 33]), (6, [35, 36, 37, 38, 39]), (8, [41, 42]), (11, [43, 44, 45]), (13, [49, 50, 51, 52, 53, 54, 55, 56]), (14, [57]), (15, [59, 60, 61, 62, 63]), (16, [65, 66, 67, 68, 69]), (17, [70, 71, 72, 73]), (18, [74, 75, 76, 77, 78]), (19, [80, 81, 82, 83, 84, 85, 86, 87, 88]), (20, [89, 90, 91, 92]), (12, [47, 48]), (21, [93, 94])], [], []⟩
def gczB := bd f30
def gcza : Shps := (shps [(.agg (shps [(.sl Z15), (.sl (.cons I (.cons I (.cons I (.cons I (.cons .bool (.cons .bool (.cons I (.cons I Z19))))))))), (.sl (.cons I Z30)), (.sl (.cons I Z8)), (.sl (.cons I (.cons I (.cons I (.cons I (.cons I (.cons I Z19))))))), (.sl (.cons I (.cons I (.cons I (.cons I Z19))))), (.sl (.cons (.sl (.cons I (.cons I Z19))) (.cons I Z9))), (.sl (.one I))])), (.sl (.one I)), (.sl Z25), J])
def gczo : Shps := (shps [])
theorem gczL : Ok [gcwE, gcyE] := kc gcwK (kc gcyK k0)
def gczk1 : Cs := (1018, loopOf (shps [(.sl (.one I)), J, (.box (shps [(.sl Z15), (.sl (.cons I (.cons I (.cons I (.cons I (.cons .bool (.cons .bool (.cons I (.cons I Z19))))))))), (.sl (.cons I Z30)), (.sl (.cons I Z8)), (.sl (.cons I (.cons I (.cons I (.cons I (.cons I (.cons I Z19))))))), (.sl (.cons I (.cons I (.cons I (.cons I Z19))))), (.sl (.cons (.sl (.cons I (.cons I Z19))) (.cons I Z9))), (.sl (.one I))])), (.ow Z25), (.ow (.one I)), J]) [1, 3, 4, 12, 13, 14] [.exit 0 Z29 [12, 13]] gcz_1018F) :: []
theorem gczc1 : CutsOk tP gczC gczB gczk1 :=
 CutsOk.loop tM rfl gczL .nil _ _ _ _ _ (by kernel_rfl) (by kernel_rfl) fun x => by kernel_rfl
def gczE : Entry := ⟨30, gcza, (.tup Z28), gczo, fun x => gcz x.1.1 x.1.2.1 x.1.2.2.1 x.1.2.2.2.1 x.1.2.2.2.2.1 x.1.2.2.2.2.2.1 x.1.2.2.2.2.2.2.1 x.1.2.2.2.2.2.2.2.1 x.2.1 x.2.2.1 x.2.2.2.1⟩
theorem gczK : EntryOk tP gczE :=
 entry_ok tM rfl gczL func30 (by kernel_rfl) (by kernel_rfl) gczc1 [] _ _ _ _ (fun x => by kernel_rfl) fun x => by kernel_rfl
def gdaC : Ctx := ⟨tP, 26, 0, [(1, [6, 7, 8, 9]), (4, [11, 12, 13]), (6, [17, 18, 19, 20, 21, 22, 23, 24]), (5, [15, 16])], [], []⟩
def gdaB := bd f31
def gdaa : Shps := (shps [(.sl Z25), (.sl Z25)])
def gdao : Shps := (shps [])
def gdak1 : Cs := (58, loopOf (shps [(.sl Z25), (.sl Z25), J]) [0, 1, 5] [.ret Z22 [4], .exit 0 (shps []) []] gda_58F) :: []
theorem gdac1 : CutsOk tP gdaC gdaB gdak1 :=
 CutsOk.loop tM rfl k0 .nil _ _ _ _ _ (by kernel_rfl) (by kernel_rfl) fun x => by kernel_rfl
def gdaE : Entry := ⟨31, gdaa, .bool, gdao, fun x => gda x.1 x.2.1⟩
theorem gdaK : EntryOk tP gdaE :=
 entry_ok tM rfl k0 func31 (by kernel_rfl) (by kernel_rfl) gdac1 [] _ _ _ _ (fun x => by kernel_rfl) fun x => by kernel_rfl
def gdbC : Ctx := ⟨tP, 134, 0, [(1, [28, 29, 30, 31, 32, 33, 34]), (2, [36]), (3, [37, 38]), (4, [11, 12, 39, 40, 41, 42, 43, 44]), (6, [45, 46]), (8, [50, 51, 52, 53, 54]), (9, [55]), (11, [56, 57]), (13, [61, 62, 63, 64, 65, 66, 67, 68]), (14, [69]), (15, [70, 71, 72]), (16, [73, 74]), (18, [79, 80]), (19, [81, 82]), (21, [87, 88]), (22, [89, 90]), (24, [95, 96]), (25, [97, 98, 99, 100, 101, 102, 103, 104, 105]), (26, [106, 107, 108, 109, 110, 111, 112, 113, 114]), (27, [115, 116, 117, 118, 119, 120, 121, 122, 123, 124, 125, 126, 127, 128]), (29, [130]), (30, [131]), (31, [132]), (32, [133])], [], []⟩
def gdbB := bd f5
def gdba : Shps := (shps [(.sl Z20), (.sl (.one I)), (.sl Z25), J])
def gdbo : Shps := (shps [])
theorem gdbL : Ok [gbiE, gbjE, gcfE, gcgE, gblE, gbmE, gchE, gbgE, gczE, gdaE, gbhE] := kc gbiK (kc gbjK (kc gcfK (kc gcgK (kc gblK (kc gbmK (kc gchK (kc gbgK (kc gczK (kc gdaK (kc gbhK k0))))))))))
def gdbk1 : Cs := (506, loopOf (shps [(.sl (.one I)), (.sl Z25), J, (.box Z7), (.box (shps [(.ow Z15), (.sl (.cons I (.cons I (.cons I (.cons I (.cons .bool (.cons .bool (.cons I (.cons I Z19))))))))), (.sl (.cons I Z30)), (.sl (.cons I Z8)), (.ow (.cons I (.cons I (.cons I (.cons I (.cons I (.cons I Z19))))))), (.ow (.cons I (.cons I (.cons I (.cons I Z19))))), (.ow (.cons (.sl (.cons I (.cons I Z19))) (.cons I Z9))), (.ow (.one I))])), (.ow (.one I)), J, J]) [1, 2, 3, 9, 10, 13, 47, 48] [.exit 0 (shps [(.sl (.one I)), (.sl Z25), J, (.box Z7), (.box (shps [(.ow Z15), (.sl (.cons I (.cons I (.cons I (.cons I (.cons .bool (.cons .bool (.cons I (.cons I Z19))))))))), (.sl (.cons I Z30)), (.sl (.cons I Z8)), (.ow (.cons I (.cons I (.cons I (.cons I (.cons I (.cons I Z19))))))), (.ow (.cons I (.cons I (.cons I (.cons I Z19))))), (.ow (.cons (.sl (.cons I (.cons I Z19))) (.cons I Z9))), (.ow (.one I))])), (.ow (.one I))]) [1, 2, 3, 9, 10, 13]] gdb_506F) :: []
theorem gdbc1 : CutsOk tP gdbC gdbB gdbk1 :=
 CutsOk.loop tM rfl gdbL .nil _ _ _ _ _ (by kernel_rfl) (by kernel_rfl) fun x => by kernel_rfl
def gdbk2 : Cs := (2042, loopOf (shps [(.sl (.one I)), (.sl Z25), J, (.box Z7), (.box (shps [(.ow Z15), (.sl (.cons I (.cons I (.cons I (.cons I (.cons .bool (.cons .bool (.cons I (.cons I Z19))))))))), (.sl (.cons I Z30)), (.sl (.cons I Z8)), (.ow (.cons I (.cons I (.cons I (.cons I (.cons I (.cons I Z19))))))), (.ow (.cons I (.cons I (.cons I (.cons I Z19))))), (.ow (.cons (.sl (.cons I (.cons I Z19))) (.cons I Z9))), (.ow (.one I))])), (.ow (.one I)), (.ow Z25), J, J]) [1, 2, 3, 9, 10, 13, 14, 58, 59] [.exit 2 (shps [(.sl (.one I)), (.sl Z25), J, (.box (shps [(.ow Z15), (.sl (.cons I (.cons I (.cons I (.cons I (.cons .bool (.cons .bool (.cons I (.cons I Z19))))))))), (.sl (.cons I Z30)), (.sl (.cons I Z8)), (.ow (.cons I (.cons I (.cons I (.cons I (.cons I (.cons I Z19))))))), (.ow (.cons I (.cons I (.cons I (.cons I Z19))))), (.ow (.cons (.sl (.cons I (.cons I Z19))) (.cons I Z9))), (.ow (.one I))])), (.ow (.one I)), (.ow Z25)]) [1, 2, 3, 10, 13, 14]] gdb_2042F) :: gdbk1
theorem gdbc2 : CutsOk tP gdbC gdbB gdbk2 :=
 CutsOk.loop tM rfl gdbL gdbc1 _ _ _ _ _ (by kernel_rfl) (by kernel_rfl) fun x => by kernel_rfl
def gdbk3 : Cs := (536503910, loopOf (shps [(.sl Z25), J, (.box (shps [(.ow Z15), (.sl (.cons I (.cons I (.cons I (.cons I (.cons .bool (.cons .bool (.cons I (.cons I Z19))))))))), (.sl (.cons I Z30)), (.sl (.cons I Z8)), (.ow (.cons I (.cons I (.cons I (.cons I (.cons I (.cons I Z19))))))), (.ow (.cons I (.cons I (.cons I (.cons I Z19))))), (.ow (.cons (.sl (.cons I (.cons I Z19))) (.cons I Z9))), (.ow (.one I))])), (.sl Z25), J, (.sl (.one I)), (.sl Z25), (.ow Z16), J, J, (.ow (.one (.sl Z25))), J, J, (.ow (.one I)), J, J]) [2, 3, 10, 14, 15, 17, 19, 75, 76, 77, 83, 84, 85, 91, 92, 93] [.ret Z22 [8], .exit 8 (shps [(.sl Z25), J, (.box (shps [(.ow Z15), (.sl (.cons I (.cons I (.cons I (.cons I (.cons .bool (.cons .bool (.cons I (.cons I Z19))))))))), (.sl (.cons I Z30)), (.sl (.cons I Z8)), (.ow (.cons I (.cons I (.cons I (.cons I (.cons I (.cons I Z19))))))), (.ow (.cons I (.cons I (.cons I (.cons I Z19))))), (.ow (.cons (.sl (.cons I (.cons I Z19))) (.cons I Z9))), (.ow (.one I))])), (.sl Z25), J, (.sl (.one I)), (.ow Z16), J, J, (.ow (.one (.sl Z25))), J, J]) [2, 3, 10, 14, 15, 17, 75, 76, 77, 83, 84, 85]] gdb_536503910F) :: gdbk2
theorem gdbc3 : CutsOk tP gdbC gdbB gdbk3 :=
 CutsOk.loop tM rfl gdbL gdbc2 _ _ _ _ _ (by kernel_rfl) (by kernel_rfl) fun x => by kernel_rfl
def gdbk4 : Cs := (2095718, loopOf (shps [(.sl Z25), J, (.box (shps [(.ow Z15), (.sl (.cons I (.cons I (.cons I (.cons I (.cons .bool (.cons .bool (.cons I (.cons I Z19))))))))), (.sl (.cons I Z30)), (.sl (.cons I Z8)), (.ow (.cons I (.cons I (.cons I (.cons I (.cons I (.cons I Z19))))))), (.ow (.cons I (.cons I (.cons I (.cons I Z19))))), (.ow (.cons (.sl (.cons I (.cons I Z19))) (.cons I Z9))), (.ow (.one I))])), (.sl Z25), J, (.sl (.one I)), (.ow Z16), J, J, (.ow (.one (.sl Z25))), J, J]) [2, 3, 10, 14, 15, 17, 75, 76, 77, 83, 84, 85] [.ret Z22 [8], .exit 6 (shps [(.sl Z25), J, (.box (shps [(.ow Z15), (.sl (.cons I (.cons I (.cons I (.cons I (.cons .bool (.cons .bool (.cons I (.cons I Z19))))))))), (.sl (.cons I Z30)), (.sl (.cons I Z8)), (.ow (.cons I (.cons I (.cons I (.cons I (.cons I (.cons I Z19))))))), (.ow (.cons I (.cons I (.cons I (.cons I Z19))))), (.ow (.cons (.sl (.cons I (.cons I Z19))) (.cons I Z9))), (.ow (.one I))])), (.sl Z25), J, (.ow Z16), J, J]) [2, 3, 10, 14, 15, 75, 76, 77]] gdb_2095718F) :: gdbk3
theorem gdbc4 : CutsOk tP gdbC gdbB gdbk4 :=
 CutsOk.loop tM rfl gdbL gdbc3 _ _ _ _ _ (by kernel_rfl) (by kernel_rfl) fun x => by kernel_rfl
def gdbk5 : Cs := (8186, loopOf (shps [(.sl Z25), J, (.box (shps [(.ow Z15), (.sl (.cons I (.cons I (.cons I (.cons I (.cons .bool (.cons .bool (.cons I (.cons I Z19))))))))), (.sl (.cons I Z30)), (.sl (.cons I Z8)), (.ow (.cons I (.cons I (.cons I (.cons I (.cons I (.cons I Z19))))))), (.ow (.cons I (.cons I (.cons I (.cons I Z19))))), (.ow (.cons (.sl (.cons I (.cons I Z19))) (.cons I Z9))), (.ow (.one I))])), (.sl Z25), J, (.ow Z16), J, J]) [2, 3, 10, 14, 15, 75, 76, 77] [.ret Z22 [8], .exit 4 (shps []) []] gdb_8186F) :: gdbk4
theorem gdbc5 : CutsOk tP gdbC gdbB gdbk5 :=
 CutsOk.loop tM rfl gdbL gdbc4 _ _ _ _ _ (by kernel_rfl) (by kernel_rfl) fun x => by kernel_rfl
def gdbE : Entry := ⟨5, gdba, .bool, gdbo, fun x => gdb x.1 x.2.1 x.2.2.1 x.2.2.2.1⟩
theorem gdbK : EntryOk tP gdbE :=
 entry_ok tM rfl gdbL func5 (by kernel_rfl) (by kernel_rfl) gdbc5 [] _ _ _ _ (fun x => by kernel_rfl) fun x => by kernel_rfl
end
end Go.V
