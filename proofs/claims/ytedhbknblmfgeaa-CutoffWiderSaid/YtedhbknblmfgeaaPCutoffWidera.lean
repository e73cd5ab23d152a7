/-
  The functions that CutoffWider reaches make these data: printed by a program, checked by the kernel.
-/
import Derived.Test.YtedhbknblmfgeaaDCutoffWidera
import Derived.Test.YtedhbknblmfgeaaProg
import Derived.KernelRfl
set_option linter.all false
namespace Go.V
open Go
noncomputable section
abbrev tP : Program := Go.Proofs.Try.prog
theorem tM : tP.follows .mixedOrders = true := by kernel_rfl
def Z1 : Shps := shps [(.int .i64), (.int .i64), (.int .i64), (.int .i64), .bool, .bool, (.int .i64), (.int .i64), (.int .i64), (.int .i64)]
def Z2 : Shps := shps [(.int .i64), (.int .i64), (.int .i64), (.int .i64), (.int .i64), (.int .i64), (.int .i64), (.int .i64)]
def Z3 : Shps := shps [(.int .i64), (.int .i64), (.int .i64), (.int .i64), (.int .i64), (.int .i64)]
def Z4 : Shps := shps [(.int .i64), (.int .i64), (.ow (.one (.int .i64)))]
def Z5 : Shps := shps [(.int .i64), (.int .i64), (.sl (.one (.int .i64)))]
def Z6 : Shps := shps [(.ow (.one (.int .i64))), (.ow (.one (.int .i64)))]
def Z7 : Shps := shps [(.bo (.one (.int .i64))), (.bo (.one (.int .i64)))]
def Z8 : Shps := shps [(.sl (.one (.int .i64))), (.sl (.one (.int .i64)))]
def Z9 : Shps := shps [(.int .i64), (.int .i64), (.int .i64), (.int .i64)]
def Z10 : Shps := shps [(.ro (.sl (.one (.int .u8)))), (.int .i64)]
def Z11 : Row := .cons (.int .i64) (.one (.sl (.one (.int .i64))))
def Z12 : Row := .cons (.sl (.one (.int .i64))) (.one (.int .i64))
def Z13 : Shps := shps [(.int .i64), (.int .i64), (.int .i64)]
def Z14 : Shps := shps [(.sl (.one (.int .u8))), (.int .i64)]
def Z15 : Shps := shps [(.ow (.one (.int .u8))), (.int .i64)]
def Z16 : Shps := shps [.bool, (.int .i64), (.int .i64)]
def Z17 : Shps := shps [(.int .i64), (.int .i64), .bool]
def Z18 : Row := .cons (.int .i64) (.one (.int .i64))
def Z19 : Shps := shps [(.int .i64), (.int .i64)]
def Z20 : Shps := shps [(.ow (.one (.int .i64)))]
def Z21 : Row := .cons (.int .i64) (.one .bool)
def Z22 : Row := .one (.sl (.one (.int .i64)))
def Z23 : Row := .cons .bool (.one .bool)
def Z24 : Shps := shps [(.int .i64), .bool, .bool, (.sl Z18)]
def Z25 : Row := .cons .bool (.one (.sl Z18))
def gaaC : Ctx := ⟨tP, 10, 0, [(1, [3, 4, 5, 6, 7, 8, 9])], [], []⟩
def gaaB : Code := (Go.Proofs.Try.f11.body).getD .skip
def gaaa : Shps := (shps [(.sl (.one (.int .u8)))])
def gaao : Shps := (shps [])
def gaaO : List Entry := []
theorem gaaL : ∀ e ∈ gaaO, EntryOk tP e := by
 intro e he; cases he
def gaak0 : List (Nat × Cut) := []
theorem gaac0 : CutsOk tP gaaC gaaB gaak0 := CutsOk.nil
def gaaE : Entry := ⟨11, gaaa, (.box Z14), gaao, fun x => gaa x.1⟩
theorem gaaK : EntryOk tP gaaE :=
 entry_ok tM rfl gaaL (fn := Go.Proofs.Try.f11) Go.Proofs.Try.func11 (by kernel_rfl) (root := gaaB) (by kernel_rfl) gaac0 [] gaaa (.box Z14) gaao (fun x => gaa x.1) (fun x => by kernel_rfl) fun x => by kernel_rfl
def gabC : Ctx := ⟨tP, 77, 1, [(1, [6, 7, 8, 9, 10, 11, 12, 13, 14, 15, 16, 17, 18]), (3, [20, 21, 22, 23, 24, 25, 26]), (4, [27, 28, 29, 30, 31, 32, 33, 34, 35, 36, 37, 38]), (5, [39, 40, 41, 42, 43, 44, 45, 46, 47, 48, 49, 50, 51]), (6, [53, 54, 55, 56, 57, 58, 59, 60, 61, 62, 63, 64, 65, 66]), (7, [67, 68, 69, 70, 71, 72, 73]), (8, [74, 75, 76])], [], []⟩
def gabB : Code := (Go.Proofs.Try.f37.body).getD .skip
def gaba : Shps := (shps [(.box Z10), (.int .i64)])
def gabo : Shps := (shps [(.box Z10)])
def gabO : List Entry := []
theorem gabL : ∀ e ∈ gabO, EntryOk tP e := by
 intro e he; cases he
def gabk0 : List (Nat × Cut) := []
theorem gabc0 : CutsOk tP gabC gabB gabk0 := CutsOk.nil
def gab_63s : Shps := (shps [(.box Z10), (.int .i64), (.int .i64)])
def gab_63w : List Way := [.ret (shps [(.box Z10), (.int .i64)]) [0, 4]]
def gabk1 : List (Nat × Cut) := (63, cutOf gab_63s [0, 1, 5] gab_63w fun x => gab_63 x.1.1 x.1.2.1 x.2.1 x.2.2.1) :: gabk0
theorem gabc1 : CutsOk tP gabC gabB gabk1 :=
 CutsOk.cut tM rfl gabL gabc0 63 gab_63s [0, 1, 5] gab_63w (fun x => gab_63 x.1.1 x.1.2.1 x.2.1 x.2.2.1) (by kernel_rfl) fun x => by kernel_rfl
def gabE : Entry := ⟨37, gaba, (.int .i64), gabo, fun x => gab x.1.1 x.1.2.1 x.2.1⟩
theorem gabK : EntryOk tP gabE :=
 entry_ok tM rfl gabL (fn := Go.Proofs.Try.f37) Go.Proofs.Try.func37 (by kernel_rfl) (root := gabB) (by kernel_rfl) gabc1 [] gaba (.int .i64) gabo (fun x => gab x.1.1 x.1.2.1 x.2.1) (fun x => by kernel_rfl) fun x => by kernel_rfl
def gacC : Ctx := ⟨tP, 11, 1, [(1, [5, 6, 7, 8, 9, 10])], [], []⟩
def gacB : Code := (Go.Proofs.Try.f27.body).getD .skip
def gaca : Shps := (shps [(.box Z10), (.int .i64)])
def gaco : Shps := (shps [(.box Z10)])
def gacO : List Entry := [gabE]
theorem gacL : ∀ e ∈ gacO, EntryOk tP e := by
 intro e he
 simp only [gacO, List.mem_cons, List.not_mem_nil, or_false] at he
 rcases he with rfl
 ·exact gabK
def gack0 : List (Nat × Cut) := []
theorem gacc0 : CutsOk tP gacC gacB gack0 := CutsOk.nil
def gacE : Entry := ⟨27, gaca, .bool, gaco, fun x => gac x.1.1 x.1.2.1 x.2.1⟩
theorem gacK : EntryOk tP gacE :=
 entry_ok tM rfl gacL (fn := Go.Proofs.Try.f27) Go.Proofs.Try.func27 (by kernel_rfl) (root := gacB) (by kernel_rfl) gacc0 [] gaca .bool gaco (fun x => gac x.1.1 x.1.2.1 x.2.1) (fun x => by kernel_rfl) fun x => by kernel_rfl
def gadC : Ctx := ⟨tP, 15, 1, [(1, [7, 8, 9, 10, 11, 12, 13, 14])], [], []⟩
def gadB : Code := (Go.Proofs.Try.f28.body).getD .skip
def gada : Shps := (shps [(.box Z10), (.int .i64), (.int .i64)])
def gado : Shps := (shps [(.box Z10)])
def gadO : List Entry := [gabE]
theorem gadL : ∀ e ∈ gadO, EntryOk tP e := by
 intro e he
 simp only [gadO, List.mem_cons, List.not_mem_nil, or_false] at he
 rcases he with rfl
 ·exact gabK
def gadk0 : List (Nat × Cut) := []
theorem gadc0 : CutsOk tP gadC gadB gadk0 := CutsOk.nil
def gadE : Entry := ⟨28, gada, (.int .i64), gado, fun x => gad x.1.1 x.1.2.1 x.2.1 x.2.2.1⟩
theorem gadK : EntryOk tP gadE :=
 entry_ok tM rfl gadL (fn := Go.Proofs.Try.f28) Go.Proofs.Try.func28 (by kernel_rfl) (root := gadB) (by kernel_rfl) gadc0 [] gada (.int .i64) gado (fun x => gad x.1.1 x.1.2.1 x.2.1 x.2.2.1) (fun x => by kernel_rfl) fun x => by kernel_rfl
def gaeC : Ctx := ⟨tP, 42, 1, [(1, [8, 9, 10, 11, 12, 13, 14, 15, 16, 17, 18, 19, 20]), (2, [21, 22, 23, 24, 25, 26, 27, 28]), (3, [29, 30, 31, 32]), (4, [33, 34, 35, 36, 37, 38, 39, 40]), (5, [41])], [], []⟩
def gaeB : Code := (Go.Proofs.Try.f71.body).getD .skip
def gaea : Shps := (shps [(.box Z10), (.int .i64), (.int .i64)])
def gaeo : Shps := (shps [(.box Z10)])
def gaeO : List Entry := [gadE, gabE]
theorem gaeL : ∀ e ∈ gaeO, EntryOk tP e := by
 intro e he
 simp only [gaeO, List.mem_cons, List.not_mem_nil, or_false] at he
 rcases he with rfl | rfl
 ·exact gadK
 ·exact gabK
def gaek0 : List (Nat × Cut) := []
theorem gaec0 : CutsOk tP gaeC gaeB gaek0 := CutsOk.nil
def gaeE : Entry := ⟨71, gaea, (.agg Z1), gaeo, fun x => gae x.1.1 x.1.2.1 x.2.1 x.2.2.1⟩
theorem gaeK : EntryOk tP gaeE :=
 entry_ok tM rfl gaeL (fn := Go.Proofs.Try.f71) Go.Proofs.Try.func71 (by kernel_rfl) (root := gaeB) (by kernel_rfl) gaec0 [] gaea (.agg Z1) gaeo (fun x => gae x.1.1 x.1.2.1 x.2.1 x.2.2.1) (fun x => by kernel_rfl) fun x => by kernel_rfl
def gafC : Ctx := ⟨tP, 40, 1, [(1, [6, 7, 8, 9, 10, 11]), (2, [12, 13]), (3, [14]), (5, [18, 19, 20, 21, 22, 23]), (6, [24, 25, 26, 27, 28, 29, 30, 31, 32, 33, 34, 35, 36, 37, 38]), (4, [16, 17]), (7, [39])], [], []⟩
def gafB : Code := (Go.Proofs.Try.f108.body).getD .skip
def gafa : Shps := (shps [(.box Z10)])
def gafo : Shps := (shps [(.box Z10)])
def gafO : List Entry := [gadE, gabE]
theorem gafL : ∀ e ∈ gafO, EntryOk tP e := by
 intro e he
 simp only [gafO, List.mem_cons, List.not_mem_nil, or_false] at he
 rcases he with rfl | rfl
 ·exact gadK
 ·exact gabK
def gafk0 : List (Nat × Cut) := []
theorem gafc0 : CutsOk tP gafC gafB gafk0 := CutsOk.nil
def gaf_58s : Shps := (shps [(.box Z10), (.ow Z18), (.int .i64)])
def gaf_58w : List Way := [.exit 0 (shps [(.box Z10), (.ow Z18)]) [0, 3]]
def gafk1 : List (Nat × Cut) := (58, loopOf gaf_58s [0, 3, 4] gaf_58w gaf_58F) :: gafk0
theorem gafc1 : CutsOk tP gafC gafB gafk1 :=
 CutsOk.loop tM rfl gafL gafc0 58 gaf_58s [0, 3, 4] gaf_58w gaf_58F (by kernel_rfl) (by kernel_rfl) fun x => by kernel_rfl
def gafE : Entry := ⟨108, gafa, (.ow Z18), gafo, fun x => gaf x.1.1 x.1.2.1⟩
theorem gafK : EntryOk tP gafE :=
 entry_ok tM rfl gafL (fn := Go.Proofs.Try.f108) Go.Proofs.Try.func108 (by kernel_rfl) (root := gafB) (by kernel_rfl) gafc1 [] gafa (.ow Z18) gafo (fun x => gaf x.1.1 x.1.2.1) (fun x => by kernel_rfl) fun x => by kernel_rfl
def gagC : Ctx := ⟨tP, 36, 1, [(1, [7, 8, 9, 10, 11]), (2, [12, 13]), (3, [14]), (5, [18, 19, 20, 21, 22, 23, 24, 25, 26, 27, 28, 29, 30, 31, 32, 33, 34]), (4, [16, 17]), (6, [35])], [], []⟩
def gagB : Code := (Go.Proofs.Try.f109.body).getD .skip
def gaga : Shps := (shps [(.box Z10), (.int .i64)])
def gago : Shps := (shps [(.box Z10)])
def gagO : List Entry := [gadE]
theorem gagL : ∀ e ∈ gagO, EntryOk tP e := by
 intro e he
 simp only [gagO, List.mem_cons, List.not_mem_nil, or_false] at he
 rcases he with rfl
 ·exact gadK
def gagk0 : List (Nat × Cut) := []
theorem gagc0 : CutsOk tP gagC gagB gagk0 := CutsOk.nil
def gag_58s : Shps := (shps [(.box Z10), (.box Z4), (.box Z4), (.int .i64)])
def gag_58w : List Way := [.exit 0 (shps [(.box Z10), (.box Z4), (.box Z4)]) [0, 4, 5]]
def gagk1 : List (Nat × Cut) := (58, loopOf gag_58s [0, 4, 5, 6] gag_58w gag_58F) :: gagk0
theorem gagc1 : CutsOk tP gagC gagB gagk1 :=
 CutsOk.loop tM rfl gagL gagc0 58 gag_58s [0, 4, 5, 6] gag_58w gag_58F (by kernel_rfl) (by kernel_rfl) fun x => by kernel_rfl
def gagE : Entry := ⟨109, gaga, (.agg Z5), gago, fun x => gag x.1.1 x.1.2.1 x.2.1⟩
theorem gagK : EntryOk tP gagE :=
 entry_ok tM rfl gagL (fn := Go.Proofs.Try.f109) Go.Proofs.Try.func109 (by kernel_rfl) (root := gagB) (by kernel_rfl) gagc1 [4] gaga (.agg Z5) gago (fun x => gag x.1.1 x.1.2.1 x.2.1) (fun x => by kernel_rfl) fun x => by kernel_rfl
def gahC : Ctx := ⟨tP, 88, 3, [(2, [10, 11, 12, 13, 14, 15]), (3, [16, 17]), (4, [18, 19, 20, 21, 22]), (6, [26, 27, 28, 29, 30, 31, 32, 33, 34, 35, 36, 37, 38, 39, 40, 41, 42, 43, 44]), (7, [45, 46, 47, 48, 49, 50, 51]), (5, [24, 25]), (8, [52, 53]), (9, [54, 55, 56, 57, 58]), (11, [62, 63, 64, 65, 66]), (12, [67, 68, 69, 70, 71, 72, 73, 74, 75, 76]), (13, [77, 78, 79, 80, 81, 82, 83, 84, 85, 86]), (10, [60, 61]), (14, [87])], [], []⟩
def gahB : Code := (Go.Proofs.Try.f72.body).getD .skip
def gaha : Shps := (shps [(.box Z10), (.box (shps [(.ow Z21), (.ow (.cons (.int .i64) (.cons (.int .i64) (.cons (.int .i64) (.cons (.int .i64) (.cons .bool (.cons .bool (.cons (.int .i64) (.cons (.int .i64) Z18))))))))), (.ow (.cons (.int .i64) (.cons .bool Z25))), (.ow (.cons (.int .i64) Z11))]))])
def gaho : Shps := (shps [(.box Z10), (.box (shps [(.ow Z21), (.ow (.cons (.int .i64) (.cons (.int .i64) (.cons (.int .i64) (.cons (.int .i64) (.cons .bool (.cons .bool (.cons (.int .i64) (.cons (.int .i64) Z18))))))))), (.ow (.cons (.int .i64) (.cons .bool Z25))), (.ow (.cons (.int .i64) Z11))]))])
def gahO : List Entry := [gabE, gacE, gafE, gagE]
theorem gahL : ∀ e ∈ gahO, EntryOk tP e := by
 intro e he
 simp only [gahO, List.mem_cons, List.not_mem_nil, or_false] at he
 rcases he with rfl | rfl | rfl | rfl
 ·exact gabK
 ·exact gacK
 ·exact gafK
 ·exact gagK
def gahk0 : List (Nat × Cut) := []
theorem gahc0 : CutsOk tP gahC gahB gahk0 := CutsOk.nil
def gah_122s : Shps := (shps [(.box Z10), (.box (shps [(.ow Z21), (.ow (.cons (.int .i64) (.cons (.int .i64) (.cons (.int .i64) (.cons (.int .i64) (.cons .bool (.cons .bool (.cons (.int .i64) (.cons (.int .i64) Z18))))))))), (.ow (.cons (.int .i64) (.cons .bool Z25))), (.ow (.cons (.int .i64) Z11))])), (.box Z6), (.box Z6), (.int .i64), (.int .i64)])
def gah_122w : List Way := [.exit 0 (shps [(.box Z10), (.box (shps [(.ow Z21), (.ow (.cons (.int .i64) (.cons (.int .i64) (.cons (.int .i64) (.cons (.int .i64) (.cons .bool (.cons .bool (.cons (.int .i64) (.cons (.int .i64) Z18))))))))), (.ow (.cons (.int .i64) (.cons .bool Z25))), (.ow (.cons (.int .i64) Z11))])), (.box Z6), (.box Z6), (.int .i64)]) [0, 1, 4, 5, 6]]
def gahk1 : List (Nat × Cut) := (122, loopOf gah_122s [0, 1, 4, 5, 6, 7] gah_122w gah_122F) :: gahk0
theorem gahc1 : CutsOk tP gahC gahB gahk1 :=
 CutsOk.loop tM rfl gahL gahc0 122 gah_122s [0, 1, 4, 5, 6, 7] gah_122w gah_122F (by kernel_rfl) (by kernel_rfl) fun x => by kernel_rfl
def gah_250s : Shps := (shps [(.box Z10), (.box (shps [(.ow Z21), (.ow (.cons (.int .i64) (.cons (.int .i64) (.cons (.int .i64) (.cons (.int .i64) (.cons .bool (.cons .bool (.cons (.int .i64) (.cons (.int .i64) Z18))))))))), (.ow (.cons (.int .i64) (.cons .bool Z25))), (.ow (.cons (.int .i64) Z11))])), (.box Z6), (.box Z6), (.int .i64), (.int .i64)])
def gah_250w : List Way := [.exit 2 (shps [(.box Z10), (.box (shps [(.ow Z21), (.ow (.cons (.int .i64) (.cons (.int .i64) (.cons (.int .i64) (.cons (.int .i64) (.cons .bool (.cons .bool (.cons (.int .i64) (.cons (.int .i64) Z18))))))))), (.ow (.cons (.int .i64) (.cons .bool Z25))), (.ow (.cons (.int .i64) Z11))])), (.box Z6), (.box Z6)]) [0, 1, 4, 5]]
def gahk2 : List (Nat × Cut) := (250, loopOf gah_250s [0, 1, 4, 5, 6, 8] gah_250w gah_250F) :: gahk1
theorem gahc2 : CutsOk tP gahC gahB gahk2 :=
 CutsOk.loop tM rfl gahL gahc1 250 gah_250s [0, 1, 4, 5, 6, 8] gah_250w gah_250F (by kernel_rfl) (by kernel_rfl) fun x => by kernel_rfl
def gahE : Entry := ⟨72, gaha, (.agg Z6), gaho, fun x => gah x.1.1 x.1.2.1 x.2.1.1 x.2.1.2.1 x.2.1.2.2.1 x.2.1.2.2.2.1⟩
theorem gahK : EntryOk tP gahE :=
 entry_ok tM rfl gahL (fn := Go.Proofs.Try.f72) Go.Proofs.Try.func72 (by kernel_rfl) (root := gahB) (by kernel_rfl) gahc2 [] gaha (.agg Z6) gaho (fun x => gah x.1.1 x.1.2.1 x.2.1.1 x.2.1.2.1 x.2.1.2.2.1 x.2.1.2.2.2.1) (fun x => by kernel_rfl) fun x => by kernel_rfl
def gaiC : Ctx := ⟨tP, 71, 0, [(1, [7, 8, 9, 10, 11, 12, 13, 14, 15, 16, 17, 18, 19, 20]), (2, [22]), (3, [23]), (4, [25, 26, 27, 28, 29, 30, 31, 32, 33, 34, 35]), (5, [36, 37, 38, 39, 40, 41, 42, 43, 44]), (7, [45, 46, 47, 48]), (9, [52, 53, 54, 55, 56, 57, 58, 59, 60, 61, 62, 63, 64, 65, 66, 67, 68, 69]), (8, [50, 51]), (10, [70])], [], []⟩
def gaiB : Code := (Go.Proofs.Try.f110.body).getD .skip
def gaia : Shps := (shps [(.agg Z5), (.int .i64)])
def gaio : Shps := (shps [])
def gaiO : List Entry := []
theorem gaiL : ∀ e ∈ gaiO, EntryOk tP e := by
 intro e he; cases he
def gaik0 : List (Nat × Cut) := []
theorem gaic0 : CutsOk tP gaiC gaiB gaik0 := CutsOk.nil
def gai_250s : Shps := (shps [(.box Z5), (.box Z19), (.box Z19), (.int .i64)])
def gai_250w : List Way := [.exit 0 (shps [(.box Z19), (.box Z19)]) [4, 5]]
def gaik1 : List (Nat × Cut) := (250, loopOf gai_250s [2, 4, 5, 6] gai_250w gai_250F) :: gaik0
theorem gaic1 : CutsOk tP gaiC gaiB gaik1 :=
 CutsOk.loop tM rfl gaiL gaic0 250 gai_250s [2, 4, 5, 6] gai_250w gai_250F (by kernel_rfl) (by kernel_rfl) fun x => by kernel_rfl
def gaiE : Entry := ⟨110, gaia, (.agg Z19), gaio, fun x => gai x.1.1 x.1.2.1 x.1.2.2.1 x.2.1⟩
theorem gaiK : EntryOk tP gaiE :=
 entry_ok tM rfl gaiL (fn := Go.Proofs.Try.f110) Go.Proofs.Try.func110 (by kernel_rfl) (root := gaiB) (by kernel_rfl) gaic1 [] gaia (.agg Z19) gaio (fun x => gai x.1.1 x.1.2.1 x.1.2.2.1 x.2.1) (fun x => by kernel_rfl) fun x => by kernel_rfl
def gajC : Ctx := ⟨tP, 16, 0, [(1, [6, 7, 8]), (2, [9, 10, 11]), (3, [13, 14]), (4, [15])], [], []⟩
def gajB : Code := (Go.Proofs.Try.f89.body).getD .skip
def gaja : Shps := Z19
def gajo : Shps := (shps [])
def gajO : List Entry := []
theorem gajL : ∀ e ∈ gajO, EntryOk tP e := by
 intro e he; cases he
def gajk0 : List (Nat × Cut) := []
theorem gajc0 : CutsOk tP gajC gajB gajk0 := CutsOk.nil
def gajE : Entry := ⟨89, gaja, (.int .i64), gajo, fun x => gaj x.1 x.2.1⟩
theorem gajK : EntryOk tP gajE :=
 entry_ok tM rfl gajL (fn := Go.Proofs.Try.f89) Go.Proofs.Try.func89 (by kernel_rfl) (root := gajB) (by kernel_rfl) gajc0 [] gaja (.int .i64) gajo (fun x => gaj x.1 x.2.1) (fun x => by kernel_rfl) fun x => by kernel_rfl
def gakC : Ctx := ⟨tP, 10, 0, [(1, [5, 6, 7, 8, 9])], [], []⟩
def gakB : Code := (Go.Proofs.Try.f90.body).getD .skip
def gaka : Shps := Z19
def gako : Shps := (shps [])
def gakO : List Entry := [gajE]
theorem gakL : ∀ e ∈ gakO, EntryOk tP e := by
 intro e he
 simp only [gakO, List.mem_cons, List.not_mem_nil, or_false] at he
 rcases he with rfl
 ·exact gajK
def gakk0 : List (Nat × Cut) := []
theorem gakc0 : CutsOk tP gakC gakB gakk0 := CutsOk.nil
def gakE : Entry := ⟨90, gaka, (.int .i64), gako, fun x => gak x.1 x.2.1⟩
theorem gakK : EntryOk tP gakE :=
 entry_ok tM rfl gakL (fn := Go.Proofs.Try.f90) Go.Proofs.Try.func90 (by kernel_rfl) (root := gakB) (by kernel_rfl) gakc0 [] gaka (.int .i64) gako (fun x => gak x.1 x.2.1) (fun x => by kernel_rfl) fun x => by kernel_rfl
def galC : Ctx := ⟨tP, 106, 0, [(1, [11, 12, 13]), (2, [14, 15, 16, 17, 18, 19]), (3, [21, 22, 23, 24, 25, 26, 27, 28, 29, 30, 31]), (4, [32, 33, 34, 35, 36, 37, 38, 39]), (5, [41, 42, 43, 44, 45, 46, 47, 48, 49, 50, 51, 52, 53, 54, 55]), (7, [56, 57, 58, 59, 60, 61, 62, 63]), (8, [65, 66]), (9, [67, 68, 69, 70, 71, 72, 73, 74, 75, 76, 77]), (10, [78, 79, 80, 81, 82, 83, 84, 85, 86, 87, 88, 89, 90, 91, 92]), (11, [93, 94, 95, 96, 97, 98, 99, 100, 101, 102, 103, 104, 105])], [], []⟩
def galB : Code := (Go.Proofs.Try.f126.body).getD .skip
def gala : Shps := (shps [(.agg Z24), (.int .i64)])
def galo : Shps := (shps [])
def galO : List Entry := [gajE, gakE]
theorem galL : ∀ e ∈ galO, EntryOk tP e := by
 intro e he
 simp only [galO, List.mem_cons, List.not_mem_nil, or_false] at he
 rcases he with rfl | rfl
 ·exact gajK
 ·exact gakK
def galk0 : List (Nat × Cut) := []
theorem galc0 : CutsOk tP galC galB galk0 := CutsOk.nil
def gal_252s : Shps := (shps [(.int .i64), (.box Z24), (.box Z19), (.int .i64)])
def gal_252w : List Way := [.exit 0 (shps [(.int .i64), (.box Z24), (.box Z19), (.int .i64)]) [1, 2, 4, 6]]
def galk1 : List (Nat × Cut) := (252, loopOf gal_252s [1, 2, 4, 6] gal_252w gal_252F) :: galk0
theorem galc1 : CutsOk tP galC galB galk1 :=
 CutsOk.loop tM rfl galL galc0 252 gal_252s [1, 2, 4, 6] gal_252w gal_252F (by kernel_rfl) (by kernel_rfl) fun x => by kernel_rfl
def galE : Entry := ⟨126, gala, (.agg Z19), galo, fun x => gal x.1.1 x.1.2.1 x.1.2.2.1 x.1.2.2.2.1 x.2.1⟩
theorem galK : EntryOk tP galE :=
 entry_ok tM rfl galL (fn := Go.Proofs.Try.f126) Go.Proofs.Try.func126 (by kernel_rfl) (root := galB) (by kernel_rfl) galc1 [] gala (.agg Z19) galo (fun x => gal x.1.1 x.1.2.1 x.1.2.2.1 x.1.2.2.2.1 x.2.1) (fun x => by kernel_rfl) fun x => by kernel_rfl
def gamC : Ctx := ⟨tP, 23, 0, [(2, [9, 10, 11, 12]), (3, [13, 14, 15, 16, 17, 18, 19]), (4, [20, 21, 22])], [], []⟩
def gamB : Code := (Go.Proofs.Try.f122.body).getD .skip
def gama : Shps := (shps [(.agg Z24), .bool, (.int .i64)])
def gamo : Shps := (shps [])
def gamO : List Entry := [galE]
theorem gamL : ∀ e ∈ gamO, EntryOk tP e := by
 intro e he
 simp only [gamO, List.mem_cons, List.not_mem_nil, or_false] at he
 rcases he with rfl
 ·exact galK
def gamk0 : List (Nat × Cut) := []
theorem gamc0 : CutsOk tP gamC gamB gamk0 := CutsOk.nil
def gamE : Entry := ⟨122, gama, (.agg Z19), gamo, fun x => gam x.1.1 x.1.2.1 x.1.2.2.1 x.1.2.2.2.1 x.2.1 x.2.2.1⟩
theorem gamK : EntryOk tP gamE :=
 entry_ok tM rfl gamL (fn := Go.Proofs.Try.f122) Go.Proofs.Try.func122 (by kernel_rfl) (root := gamB) (by kernel_rfl) gamc0 [] gama (.agg Z19) gamo (fun x => gam x.1.1 x.1.2.1 x.1.2.2.1 x.1.2.2.2.1 x.2.1 x.2.2.1) (fun x => by kernel_rfl) fun x => by kernel_rfl
def ganC : Ctx := ⟨tP, 45, 0, [(2, [11]), (3, [12]), (4, [14]), (5, [15, 16, 17, 18, 19]), (6, [21]), (7, [22, 23, 24, 25, 26, 27]), (8, [28, 29, 30, 31, 32, 33]), (9, [34, 35, 36, 37, 38, 39, 40, 41, 42, 43, 44])], [], []⟩
def ganB : Code := (Go.Proofs.Try.f111.body).getD .skip
def gana : Shps := (shps [(.agg Z24), (.int .i64), (.int .i64)])
def gano : Shps := (shps [])
def ganO : List Entry := [gamE]
theorem ganL : ∀ e ∈ ganO, EntryOk tP e := by
 intro e he
 simp only [ganO, List.mem_cons, List.not_mem_nil, or_false] at he
 rcases he with rfl
 ·exact gamK
def gank0 : List (Nat × Cut) := []
theorem ganc0 : CutsOk tP ganC ganB gank0 := CutsOk.nil
def ganE : Entry := ⟨111, gana, (.agg Z19), gano, fun x => gan x.1.1 x.1.2.1 x.1.2.2.1 x.1.2.2.2.1 x.2.1 x.2.2.1⟩
theorem ganK : EntryOk tP ganE :=
 entry_ok tM rfl ganL (fn := Go.Proofs.Try.f111) Go.Proofs.Try.func111 (by kernel_rfl) (root := ganB) (by kernel_rfl) ganc0 [] gana (.agg Z19) gano (fun x => gan x.1.1 x.1.2.1 x.1.2.2.1 x.1.2.2.2.1 x.2.1 x.2.2.1) (fun x => by kernel_rfl) fun x => by kernel_rfl
def gaoC : Ctx := ⟨tP, 166, 3, [(2, [15, 16, 17, 18, 19, 20, 21]), (4, [25, 26, 27, 28, 29, 30, 31]), (5, [32, 33, 34, 35, 36]), (6, [37, 38, 39, 40, 41, 42, 43, 44, 45, 46, 47, 48, 49, 50, 51, 52, 53, 54, 55, 56]), (8, [57, 58, 59, 60, 61, 62]), (10, [66, 67, 68, 69, 70, 71, 72, 73, 74]), (11, [76, 77, 78, 79, 80, 81, 82, 83, 84, 85, 86, 87, 88, 89, 90, 91]), (9, [64, 65]), (12, [92, 93, 94, 95, 96, 97, 98, 99, 100, 101, 102, 103, 104, 105, 106, 107, 108, 109, 110, 111, 112, 113, 114, 115, 116, 117]), (14, [118, 119, 120, 121, 122, 123]), (16, [127, 128, 129, 130, 131, 132, 133, 134, 135]), (17, [137, 138, 139, 140, 141, 142, 143, 144, 145, 146, 147, 148, 149, 150, 151, 152, 153]), (15, [125, 126]), (18, [154, 155, 156, 157, 158, 159, 160, 161, 162, 163, 164, 165]), (3, [23, 24])], [], []⟩
def gaoB : Code := (Go.Proofs.Try.f73.body).getD .skip
def gaoa : Shps := (shps [(.box Z10), (.box (shps [(.ow Z21), (.ow (.cons (.int .i64) (.cons (.int .i64) (.cons (.int .i64) (.cons (.int .i64) (.cons .bool (.cons .bool (.cons (.int .i64) (.cons (.int .i64) Z18))))))))), (.ow (.cons (.int .i64) (.cons .bool Z25))), (.ow (.cons (.int .i64) Z11))])), (.agg Z7), (.agg Z7)])
def gaoo : Shps := (shps [(.box Z10), (.box (shps [(.ow Z21), (.ow (.cons (.int .i64) (.cons (.int .i64) (.cons (.int .i64) (.cons (.int .i64) (.cons .bool (.cons .bool (.cons (.int .i64) (.cons (.int .i64) Z18))))))))), (.ow (.cons (.int .i64) (.cons .bool Z25))), (.ow (.cons (.int .i64) Z11))]))])
def gaoO : List Entry := [gabE, gaiE, ganE]
theorem gaoL : ∀ e ∈ gaoO, EntryOk tP e := by
 intro e he
 simp only [gaoO, List.mem_cons, List.not_mem_nil, or_false] at he
 rcases he with rfl | rfl | rfl
 ·exact gabK
 ·exact gaiK
 ·exact ganK
def gaok0 : List (Nat × Cut) := []
theorem gaoc0 : CutsOk tP gaoC gaoB gaok0 := CutsOk.nil
def gao_14650s : Shps := (shps [(.box Z10), (.box (shps [(.ow Z21), (.ow (.cons (.int .i64) (.cons (.int .i64) (.cons (.int .i64) (.cons (.int .i64) (.cons .bool (.cons .bool (.cons (.int .i64) (.cons (.int .i64) Z18))))))))), (.ow (.cons (.int .i64) (.cons .bool Z25))), (.ow (.cons (.int .i64) Z11))])), (.box Z7), (.box Z7), (.int .i64), (.rpe 1 (some 1) 0), (.int .i64), (.int .i64), (.int .i64)])
def gao_14650w : List Way := [.exit 2 (shps [(.box Z10), (.box (shps [(.ow Z21), (.ow (.cons (.int .i64) (.cons (.int .i64) (.cons (.int .i64) (.cons (.int .i64) (.cons .bool (.cons .bool (.cons (.int .i64) (.cons (.int .i64) Z18))))))))), (.ow (.cons (.int .i64) (.cons .bool Z25))), (.ow (.cons (.int .i64) Z11))])), (.box Z7), (.box Z7), (.int .i64), (.rpe 1 (some 1) 0), (.int .i64), (.int .i64)]) [0, 1, 6, 7, 8, 9, 10, 11]]
def gaok1 : List (Nat × Cut) := (14650, loopOf gao_14650s [0, 1, 6, 7, 8, 9, 10, 11, 12] gao_14650w gao_14650F) :: gaok0
theorem gaoc1 : CutsOk tP gaoC gaoB gaok1 :=
 CutsOk.loop tM rfl gaoL gaoc0 14650 gao_14650s [0, 1, 6, 7, 8, 9, 10, 11, 12] gao_14650w gao_14650F (by kernel_rfl) (by kernel_rfl) fun x => by kernel_rfl
def gao_58618s : Shps := (shps [(.box Z10), (.box (shps [(.ow Z21), (.ow (.cons (.int .i64) (.cons (.int .i64) (.cons (.int .i64) (.cons (.int .i64) (.cons .bool (.cons .bool (.cons (.int .i64) (.cons (.int .i64) Z18))))))))), (.ow (.cons (.int .i64) (.cons .bool Z25))), (.ow (.cons (.int .i64) Z11))])), (.box Z7), (.box Z7), (.int .i64), (.rpe 1 (some 1) 0), (.int .i64), (.int .i64), (.int .i64)])
def gao_58618w : List Way := [.exit 4 (shps [(.box Z10), (.box (shps [(.ow Z21), (.ow (.cons (.int .i64) (.cons (.int .i64) (.cons (.int .i64) (.cons (.int .i64) (.cons .bool (.cons .bool (.cons (.int .i64) (.cons (.int .i64) Z18))))))))), (.ow (.cons (.int .i64) (.cons .bool Z25))), (.ow (.cons (.int .i64) Z11))])), (.box Z7), (.box Z7), (.int .i64), (.rpe 1 (some 1) 0), (.int .i64)]) [0, 1, 6, 7, 8, 9, 13]]
def gaok2 : List (Nat × Cut) := (58618, loopOf gao_58618s [0, 1, 6, 7, 8, 9, 10, 13, 14] gao_58618w gao_58618F) :: gaok1
theorem gaoc2 : CutsOk tP gaoC gaoB gaok2 :=
 CutsOk.loop tM rfl gaoL gaoc1 58618 gao_58618s [0, 1, 6, 7, 8, 9, 10, 13, 14] gao_58618w gao_58618F (by kernel_rfl) (by kernel_rfl) fun x => by kernel_rfl
def gao_14s : Shps := (shps [(.box Z10), (.box (shps [(.ow Z21), (.ow (.cons (.int .i64) (.cons (.int .i64) (.cons (.int .i64) (.cons (.int .i64) (.cons .bool (.cons .bool (.cons (.int .i64) (.cons (.int .i64) Z18))))))))), (.ow (.cons (.int .i64) (.cons .bool Z25))), (.ow (.cons (.int .i64) Z11))])), (.box Z7), (.box Z7), (.int .i64)])
def gao_14w : List Way := [.exit 0 (shps [(.box Z10), (.box (shps [(.ow Z21), (.ow (.cons (.int .i64) (.cons (.int .i64) (.cons (.int .i64) (.cons (.int .i64) (.cons .bool (.cons .bool (.cons (.int .i64) (.cons (.int .i64) Z18))))))))), (.ow (.cons (.int .i64) (.cons .bool Z25))), (.ow (.cons (.int .i64) Z11))]))]) [0, 1]]
def gaok3 : List (Nat × Cut) := (14, loopOf gao_14s [0, 1, 6, 7, 8] gao_14w gao_14F) :: gaok2
theorem gaoc3 : CutsOk tP gaoC gaoB gaok3 :=
 CutsOk.loop tM rfl gaoL gaoc2 14 gao_14s [0, 1, 6, 7, 8] gao_14w gao_14F (by kernel_rfl) (by kernel_rfl) fun x => by kernel_rfl
def gaoE : Entry := ⟨73, gaoa, (.tup (shps [])), gaoo, fun x => gao x.1.1 x.1.2.1 x.2.1.1 x.2.1.2.1 x.2.1.2.2.1 x.2.1.2.2.2.1 x.2.2.1.1 x.2.2.1.2.1 x.2.2.2.1.1 x.2.2.2.1.2.1⟩
theorem gaoK : EntryOk tP gaoE :=
 entry_ok tM rfl gaoL (fn := Go.Proofs.Try.f73) Go.Proofs.Try.func73 (by kernel_rfl) (root := gaoB) (by kernel_rfl) gaoc3 [] gaoa (.tup (shps [])) gaoo (fun x => gao x.1.1 x.1.2.1 x.2.1.1 x.2.1.2.1 x.2.1.2.2.1 x.2.1.2.2.2.1 x.2.2.1.1 x.2.2.1.2.1 x.2.2.2.1.1 x.2.2.2.1.2.1) (fun x => by kernel_rfl) fun x => by kernel_rfl
def gapC : Ctx := ⟨tP, 53, 1, [(0, [4]), (3, [12, 13, 14, 15]), (5, [19, 20, 21, 22, 23]), (6, [24]), (8, [26, 27, 28, 29, 30, 31]), (4, [17, 18]), (10, [32, 33, 34, 35]), (12, [39, 40, 41, 42, 43]), (13, [44]), (15, [46, 47, 48, 49, 50, 51]), (11, [37, 38]), (16, [52])], [], []⟩
def gapB : Code := (Go.Proofs.Try.f74.body).getD .skip
def gapa : Shps := (shps [(.box Z10), (.agg (shps [(.sl Z21), (.sl (.cons (.int .i64) (.cons (.int .i64) (.cons (.int .i64) (.cons (.int .i64) (.cons .bool (.cons .bool (.cons (.int .i64) (.cons (.int .i64) Z18))))))))), (.sl (.cons (.int .i64) (.cons .bool Z25))), (.sl (.cons (.int .i64) Z11))])), (.agg Z8)])
def gapo : Shps := (shps [(.box Z10)])
def gapO : List Entry := [gacE]
theorem gapL : ∀ e ∈ gapO, EntryOk tP e := by
 intro e he
 simp only [gapO, List.mem_cons, List.not_mem_nil, or_false] at he
 rcases he with rfl
 ·exact gacK
def gapk0 : List (Nat × Cut) := []
theorem gapc0 : CutsOk tP gapC gapB gapk0 := CutsOk.nil
def gap_3731s : Shps := (shps [(.box Z10), (.box Z8), (.box Z6), (.box Z6), (.int .i64), (.int .i64)])
def gap_3731w : List Way := [.norm (shps [(.box Z10), (.box Z8), (.box Z6), (.box Z6), (.int .i64)]) [0, 5, 6, 7, 8]]
def gapk1 : List (Nat × Cut) := (3731, cutOf gap_3731s [0, 5, 6, 7, 8, 9] gap_3731w fun x => gap_3731 x.1.1 x.1.2.1 x.2.1.1 x.2.1.2.1 x.2.2.1.1 x.2.2.1.2.1 x.2.2.2.1.1 x.2.2.2.1.2.1 x.2.2.2.2.1 x.2.2.2.2.2.1) :: gapk0
theorem gapc1 : CutsOk tP gapC gapB gapk1 :=
 CutsOk.cut tM rfl gapL gapc0 3731 gap_3731s [0, 5, 6, 7, 8, 9] gap_3731w (fun x => gap_3731 x.1.1 x.1.2.1 x.2.1.1 x.2.1.2.1 x.2.2.1.1 x.2.2.1.2.1 x.2.2.2.1.1 x.2.2.2.1.2.1 x.2.2.2.2.1 x.2.2.2.2.2.1) (by kernel_rfl) fun x => by kernel_rfl
def gap_58s : Shps := (shps [(.box Z10), (.box Z8), (.box Z6), (.box Z6), (.int .i64)])
def gap_58w : List Way := [.exit 0 (shps [(.box Z10), (.box Z8), (.box Z6), (.box Z6)]) [0, 5, 6, 7]]
def gapk2 : List (Nat × Cut) := (58, loopOf gap_58s [0, 5, 6, 7, 8] gap_58w gap_58F) :: gapk1
theorem gapc2 : CutsOk tP gapC gapB gapk2 :=
 CutsOk.loop tM rfl gapL gapc1 58 gap_58s [0, 5, 6, 7, 8] gap_58w gap_58F (by kernel_rfl) (by kernel_rfl) fun x => by kernel_rfl
def gap_7827s : Shps := (shps [(.box Z10), (.box Z8), (.box Z6), (.box Z6), (.int .i64), (.int .i64)])
def gap_7827w : List Way := [.norm (shps [(.box Z10), (.box Z8), (.box Z6), (.box Z6), (.int .i64)]) [0, 5, 6, 7, 10]]
def gapk3 : List (Nat × Cut) := (7827, cutOf gap_7827s [0, 5, 6, 7, 10, 11] gap_7827w fun x => gap_7827 x.1.1 x.1.2.1 x.2.1.1 x.2.1.2.1 x.2.2.1.1 x.2.2.1.2.1 x.2.2.2.1.1 x.2.2.2.1.2.1 x.2.2.2.2.1 x.2.2.2.2.2.1) :: gapk2
theorem gapc3 : CutsOk tP gapC gapB gapk3 :=
 CutsOk.cut tM rfl gapL gapc2 7827 gap_7827s [0, 5, 6, 7, 10, 11] gap_7827w (fun x => gap_7827 x.1.1 x.1.2.1 x.2.1.1 x.2.1.2.1 x.2.2.1.1 x.2.2.1.2.1 x.2.2.2.1.1 x.2.2.2.1.2.1 x.2.2.2.2.1 x.2.2.2.2.2.1) (by kernel_rfl) fun x => by kernel_rfl
def gap_122s : Shps := (shps [(.box Z10), (.box Z8), (.box Z6), (.box Z6), (.int .i64)])
def gap_122w : List Way := [.exit 2 (shps [(.box Z10), (.box Z6), (.box Z6)]) [0, 6, 7]]
def gapk4 : List (Nat × Cut) := (122, loopOf gap_122s [0, 5, 6, 7, 10] gap_122w gap_122F) :: gapk3
theorem gapc4 : CutsOk tP gapC gapB gapk4 :=
 CutsOk.loop tM rfl gapL gapc3 122 gap_122s [0, 5, 6, 7, 10] gap_122w gap_122F (by kernel_rfl) (by kernel_rfl) fun x => by kernel_rfl
def gapE : Entry := ⟨74, gapa, (.agg Z6), gapo, fun x => gap x.1.1 x.1.2.1 x.2.1.1 x.2.1.2.1 x.2.1.2.2.1 x.2.1.2.2.2.1 x.2.2.1.1 x.2.2.1.2.1⟩
theorem gapK : EntryOk tP gapE :=
 entry_ok tM rfl gapL (fn := Go.Proofs.Try.f74) Go.Proofs.Try.func74 (by kernel_rfl) (root := gapB) (by kernel_rfl) gapc4 [] gapa (.agg Z6) gapo (fun x => gap x.1.1 x.1.2.1 x.2.1.1 x.2.1.2.1 x.2.1.2.2.1 x.2.1.2.2.2.1 x.2.2.1.1 x.2.2.1.2.1) (fun x => by kernel_rfl) fun x => by kernel_rfl
def gaqC : Ctx := ⟨tP, 189, 1, [(1, [20, 21, 22, 23]), (2, [24]), (3, [26, 27, 28, 29, 30, 31, 32, 33]), (4, [34, 35, 36, 37]), (5, [38, 39]), (6, [40]), (8, [44, 45, 46, 47, 48, 49, 50, 51, 52, 53, 54]), (7, [42, 43]), (9, [55, 56, 57, 58]), (10, [59, 60, 61]), (11, [62]), (12, [63, 64]), (14, [68, 69, 70, 71, 72, 73]), (13, [66, 67]), (15, [74, 75]), (16, [76]), (17, [78, 79]), (18, [80]), (20, [84, 85, 86]), (21, [87, 88, 89, 90, 91, 92, 93, 94, 95, 96, 97, 98]), (22, [99, 100, 101]), (23, [102, 103]), (24, [104]), (26, [106, 107, 108, 109, 110, 111, 112, 113, 114, 115, 116, 117, 118, 119]), (27, [120, 121, 122, 123, 124, 125, 126, 127]), (28, [128, 129, 130, 131, 132, 133, 134, 135]), (19, [82, 83]), (29, [136]), (30, [137, 138]), (32, [142, 143, 144, 145, 146, 147, 148, 149, 150, 151, 152]), (33, [153]), (34, [155, 156, 157, 158, 159, 160, 161, 162]), (35, [163, 164, 165, 166, 167, 168, 169, 170, 171, 172, 173, 174, 175, 176]), (31, [140, 141]), (36, [177, 178]), (37, [179, 180, 181, 182]), (38, [183, 184, 185, 186, 187, 188])], [73], []⟩
def gaqB : Code := (Go.Proofs.Try.f40.body).getD .skip
def gaqa : Shps := (shps [(.box Z10)])
def gaqo : Shps := (shps [(.box Z10)])
def gaqO : List Entry := [gacE, gabE, gadE, gaeE, gahE, gaoE, gapE]
theorem gaqL : ∀ e ∈ gaqO, EntryOk tP e := by
 intro e he
 simp only [gaqO, List.mem_cons, List.not_mem_nil, or_false] at he
 rcases he with rfl | rfl | rfl | rfl | rfl | rfl | rfl
 ·exact gacK
 ·exact gabK
 ·exact gadK
 ·exact gaeK
 ·exact gahK
 ·exact gaoK
 ·exact gapK
def gaqk0 : List (Nat × Cut) := []
theorem gaqc0 : CutsOk tP gaqC gaqB gaqk0 := CutsOk.nil
def gaq_250s : Shps := (shps [(.box Z10), (.box (shps [(.ow Z21), (.ow (.cons (.int .i64) (.cons (.int .i64) (.cons (.int .i64) (.cons (.int .i64) (.cons .bool (.cons .bool (.cons (.int .i64) (.cons (.int .i64) Z18))))))))), (.ow (.cons (.int .i64) (.cons .bool Z25))), (.ow (.cons (.int .i64) Z11))])), (.box Z6), (.box Z6), (.box (shps [(.ow Z21), (.ow (.cons (.int .i64) (.cons (.int .i64) (.cons (.int .i64) (.cons (.int .i64) (.cons .bool (.cons .bool (.cons (.int .i64) (.cons (.int .i64) Z18))))))))), (.ow (.cons (.int .i64) (.cons .bool Z25))), (.ow (.cons (.int .i64) Z11))])), (.int .i64), (.int .i64)])
def gaq_250w : List Way := [.exit 0 (shps [(.box Z10), (.box (shps [(.ow Z21), (.ow (.cons (.int .i64) (.cons (.int .i64) (.cons (.int .i64) (.cons (.int .i64) (.cons .bool (.cons .bool (.cons (.int .i64) (.cons (.int .i64) Z18))))))))), (.ow (.cons (.int .i64) (.cons .bool Z25))), (.ow (.cons (.int .i64) Z11))])), (.box Z6), (.box Z6), (.box (shps [(.ow Z21), (.ow (.cons (.int .i64) (.cons (.int .i64) (.cons (.int .i64) (.cons (.int .i64) (.cons .bool (.cons .bool (.cons (.int .i64) (.cons (.int .i64) Z18))))))))), (.ow (.cons (.int .i64) (.cons .bool Z25))), (.ow (.cons (.int .i64) Z11))])), (.int .i64)]) [0, 2, 3, 4, 5, 6]]
def gaqk1 : List (Nat × Cut) := (250, loopOf gaq_250s [0, 2, 3, 4, 5, 6, 7] gaq_250w gaq_250F) :: gaqk0
theorem gaqc1 : CutsOk tP gaqC gaqB gaqk1 :=
 CutsOk.loop tM rfl gaqL gaqc0 250 gaq_250s [0, 2, 3, 4, 5, 6, 7] gaq_250w gaq_250F (by kernel_rfl) (by kernel_rfl) fun x => by kernel_rfl
def gaq_2042s : Shps := (shps [(.box Z10), (.box (shps [(.ow Z21), (.ow (.cons (.int .i64) (.cons (.int .i64) (.cons (.int .i64) (.cons (.int .i64) (.cons .bool (.cons .bool (.cons (.int .i64) (.cons (.int .i64) Z18))))))))), (.ow (.cons (.int .i64) (.cons .bool Z25))), (.ow (.cons (.int .i64) Z11))])), (.box Z6), (.box Z6), (.box (shps [(.ow Z21), (.ow (.cons (.int .i64) (.cons (.int .i64) (.cons (.int .i64) (.cons (.int .i64) (.cons .bool (.cons .bool (.cons (.int .i64) (.cons (.int .i64) Z18))))))))), (.ow (.cons (.int .i64) (.cons .bool Z25))), (.ow (.cons (.int .i64) Z11))])), (.int .i64), (.int .i64), (.box Z6), (.int .i64)])
def gaq_2042w : List Way := [.exit 2 (shps [(.box Z10), (.box (shps [(.ow Z21), (.ow (.cons (.int .i64) (.cons (.int .i64) (.cons (.int .i64) (.cons (.int .i64) (.cons .bool (.cons .bool (.cons (.int .i64) (.cons (.int .i64) Z18))))))))), (.ow (.cons (.int .i64) (.cons .bool Z25))), (.ow (.cons (.int .i64) Z11))])), (.box Z6), (.box Z6), (.box (shps [(.ow Z21), (.ow (.cons (.int .i64) (.cons (.int .i64) (.cons (.int .i64) (.cons (.int .i64) (.cons .bool (.cons .bool (.cons (.int .i64) (.cons (.int .i64) Z18))))))))), (.ow (.cons (.int .i64) (.cons .bool Z25))), (.ow (.cons (.int .i64) Z11))])), (.int .i64), (.int .i64), (.box Z6)]) [0, 2, 3, 4, 5, 6, 8, 9]]
def gaqk2 : List (Nat × Cut) := (2042, loopOf gaq_2042s [0, 2, 3, 4, 5, 6, 8, 9, 10] gaq_2042w gaq_2042F) :: gaqk1
theorem gaqc2 : CutsOk tP gaqC gaqB gaqk2 :=
 CutsOk.loop tM rfl gaqL gaqc1 2042 gaq_2042s [0, 2, 3, 4, 5, 6, 8, 9, 10] gaq_2042w gaq_2042F (by kernel_rfl) (by kernel_rfl) fun x => by kernel_rfl
def gaq_16766111s : Shps := (shps [(.box Z10), (.box (shps [(.ow Z21), (.ow (.cons (.int .i64) (.cons (.int .i64) (.cons (.int .i64) (.cons (.int .i64) (.cons .bool (.cons .bool (.cons (.int .i64) (.cons (.int .i64) Z18))))))))), (.ow (.cons (.int .i64) (.cons .bool Z25))), (.ow (.cons (.int .i64) Z11))])), (.box Z6), (.box Z6), (.box (shps [(.ow Z21), (.ow (.cons (.int .i64) (.cons (.int .i64) (.cons (.int .i64) (.cons (.int .i64) (.cons .bool (.cons .bool (.cons (.int .i64) (.cons (.int .i64) Z18))))))))), (.ow (.cons (.int .i64) (.cons .bool Z25))), (.ow (.cons (.int .i64) Z11))])), (.int .i64), (.int .i64), (.box Z6), (.ow (.one (.int .i64))), (.int .i64), (.box Z1), (.int .i64)])
def gaq_16766111w : List Way := [.norm (shps [(.box Z10), (.box (shps [(.ow Z21), (.ow (.cons (.int .i64) (.cons (.int .i64) (.cons (.int .i64) (.cons (.int .i64) (.cons .bool (.cons .bool (.cons (.int .i64) (.cons (.int .i64) Z18))))))))), (.ow (.cons (.int .i64) (.cons .bool Z25))), (.ow (.cons (.int .i64) Z11))])), (.box Z6), (.box Z6), (.box (shps [(.ow Z21), (.ow (.cons (.int .i64) (.cons (.int .i64) (.cons (.int .i64) (.cons (.int .i64) (.cons .bool (.cons .bool (.cons (.int .i64) (.cons (.int .i64) Z18))))))))), (.ow (.cons (.int .i64) (.cons .bool Z25))), (.ow (.cons (.int .i64) Z11))])), (.int .i64), (.int .i64), (.box Z6), (.ow (.one (.int .i64))), (.int .i64)]) [0, 2, 3, 4, 5, 6, 8, 9, 11, 12]]
def gaqk3 : List (Nat × Cut) := (16766111, cutOf gaq_16766111s [0, 2, 3, 4, 5, 6, 8, 9, 11, 12, 14, 15] gaq_16766111w fun x => gaq_16766111 x.1.1 x.1.2.1 x.2.1.1 x.2.1.2.1 x.2.1.2.2.1 x.2.1.2.2.2.1 x.2.2.1.1 x.2.2.1.2.1 x.2.2.2.1.1 x.2.2.2.1.2.1 x.2.2.2.2.1.1 x.2.2.2.2.1.2.1 x.2.2.2.2.1.2.2.1 x.2.2.2.2.1.2.2.2.1 x.2.2.2.2.2.1 x.2.2.2.2.2.2.1 x.2.2.2.2.2.2.2.1.1 x.2.2.2.2.2.2.2.1.2.1 x.2.2.2.2.2.2.2.2.1 x.2.2.2.2.2.2.2.2.2.1 x.2.2.2.2.2.2.2.2.2.2.1.1 x.2.2.2.2.2.2.2.2.2.2.1.2.1 x.2.2.2.2.2.2.2.2.2.2.1.2.2.1 x.2.2.2.2.2.2.2.2.2.2.1.2.2.2.1 x.2.2.2.2.2.2.2.2.2.2.1.2.2.2.2.1 x.2.2.2.2.2.2.2.2.2.2.1.2.2.2.2.2.1 x.2.2.2.2.2.2.2.2.2.2.1.2.2.2.2.2.2.1 x.2.2.2.2.2.2.2.2.2.2.1.2.2.2.2.2.2.2.1 x.2.2.2.2.2.2.2.2.2.2.1.2.2.2.2.2.2.2.2.1 x.2.2.2.2.2.2.2.2.2.2.1.2.2.2.2.2.2.2.2.2.1 x.2.2.2.2.2.2.2.2.2.2.2.1) :: gaqk2
theorem gaqc3 : CutsOk tP gaqC gaqB gaqk3 :=
 CutsOk.cut tM rfl gaqL gaqc2 16766111 gaq_16766111s [0, 2, 3, 4, 5, 6, 8, 9, 11, 12, 14, 15] gaq_16766111w (fun x => gaq_16766111 x.1.1 x.1.2.1 x.2.1.1 x.2.1.2.1 x.2.1.2.2.1 x.2.1.2.2.2.1 x.2.2.1.1 x.2.2.1.2.1 x.2.2.2.1.1 x.2.2.2.1.2.1 x.2.2.2.2.1.1 x.2.2.2.2.1.2.1 x.2.2.2.2.1.2.2.1 x.2.2.2.2.1.2.2.2.1 x.2.2.2.2.2.1 x.2.2.2.2.2.2.1 x.2.2.2.2.2.2.2.1.1 x.2.2.2.2.2.2.2.1.2.1 x.2.2.2.2.2.2.2.2.1 x.2.2.2.2.2.2.2.2.2.1 x.2.2.2.2.2.2.2.2.2.2.1.1 x.2.2.2.2.2.2.2.2.2.2.1.2.1 x.2.2.2.2.2.2.2.2.2.2.1.2.2.1 x.2.2.2.2.2.2.2.2.2.2.1.2.2.2.1 x.2.2.2.2.2.2.2.2.2.2.1.2.2.2.2.1 x.2.2.2.2.2.2.2.2.2.2.1.2.2.2.2.2.1 x.2.2.2.2.2.2.2.2.2.2.1.2.2.2.2.2.2.1 x.2.2.2.2.2.2.2.2.2.2.1.2.2.2.2.2.2.2.1 x.2.2.2.2.2.2.2.2.2.2.1.2.2.2.2.2.2.2.2.1 x.2.2.2.2.2.2.2.2.2.2.1.2.2.2.2.2.2.2.2.2.1 x.2.2.2.2.2.2.2.2.2.2.2.1) (by kernel_rfl) fun x => by kernel_rfl
def gaq_32746s : Shps := (shps [(.box Z10), (.box (shps [(.ow Z21), (.ow (.cons (.int .i64) (.cons (.int .i64) (.cons (.int .i64) (.cons (.int .i64) (.cons .bool (.cons .bool (.cons (.int .i64) (.cons (.int .i64) Z18))))))))), (.ow (.cons (.int .i64) (.cons .bool Z25))), (.ow (.cons (.int .i64) Z11))])), (.box Z6), (.box Z6), (.box (shps [(.ow Z21), (.ow (.cons (.int .i64) (.cons (.int .i64) (.cons (.int .i64) (.cons (.int .i64) (.cons .bool (.cons .bool (.cons (.int .i64) (.cons (.int .i64) Z18))))))))), (.ow (.cons (.int .i64) (.cons .bool Z25))), (.ow (.cons (.int .i64) Z11))])), (.int .i64), (.int .i64), (.box Z6), (.ow (.one (.int .i64))), (.int .i64)])
def gaq_32746w : List Way := [.exit 4 (shps [(.box Z10), (.box (shps [(.ow Z21), (.ow (.cons (.int .i64) (.cons (.int .i64) (.cons (.int .i64) (.cons (.int .i64) (.cons .bool (.cons .bool (.cons (.int .i64) (.cons (.int .i64) Z18))))))))), (.ow (.cons (.int .i64) (.cons .bool Z25))), (.ow (.cons (.int .i64) Z11))])), (.box Z6), (.box Z6), (.box (shps [(.ow Z21), (.ow (.cons (.int .i64) (.cons (.int .i64) (.cons (.int .i64) (.cons (.int .i64) (.cons .bool (.cons .bool (.cons (.int .i64) (.cons (.int .i64) Z18))))))))), (.ow (.cons (.int .i64) (.cons .bool Z25))), (.ow (.cons (.int .i64) Z11))])), (.int .i64), (.int .i64), (.box Z6), (.ow (.one (.int .i64)))]) [0, 2, 3, 4, 5, 6, 8, 9, 11]]
def gaqk4 : List (Nat × Cut) := (32746, loopOf gaq_32746s [0, 2, 3, 4, 5, 6, 8, 9, 11, 12] gaq_32746w gaq_32746F) :: gaqk3
theorem gaqc4 : CutsOk tP gaqC gaqB gaqk4 :=
 CutsOk.loop tM rfl gaqL gaqc3 32746 gaq_32746s [0, 2, 3, 4, 5, 6, 8, 9, 11, 12] gaq_32746w gaq_32746F (by kernel_rfl) (by kernel_rfl) fun x => by kernel_rfl
def gaq_1048211s : Shps := (shps [(.box Z10), (.box (shps [(.ow Z21), (.ow (.cons (.int .i64) (.cons (.int .i64) (.cons (.int .i64) (.cons (.int .i64) (.cons .bool (.cons .bool (.cons (.int .i64) (.cons (.int .i64) Z18))))))))), (.ow (.cons (.int .i64) (.cons .bool Z25))), (.ow (.cons (.int .i64) Z11))])), (.box Z6), (.box Z6), (.box (shps [(.ow Z21), (.ow (.cons (.int .i64) (.cons (.int .i64) (.cons (.int .i64) (.cons (.int .i64) (.cons .bool (.cons .bool (.cons (.int .i64) (.cons (.int .i64) Z18))))))))), (.ow (.cons (.int .i64) (.cons .bool Z25))), (.ow (.cons (.int .i64) Z11))])), (.int .i64), (.int .i64), (.box Z6), (.ow (.one (.int .i64))), (.int .i64), (.box Z1), (.int .i64)])
def gaq_1048211w : List Way := [.norm (shps [(.box Z10), (.box (shps [(.ow Z21), (.ow (.cons (.int .i64) (.cons (.int .i64) (.cons (.int .i64) (.cons (.int .i64) (.cons .bool (.cons .bool (.cons (.int .i64) (.cons (.int .i64) Z18))))))))), (.ow (.cons (.int .i64) (.cons .bool Z25))), (.ow (.cons (.int .i64) Z11))])), (.box Z6), (.box Z6), (.box (shps [(.ow Z21), (.ow (.cons (.int .i64) (.cons (.int .i64) (.cons (.int .i64) (.cons (.int .i64) (.cons .bool (.cons .bool (.cons (.int .i64) (.cons (.int .i64) Z18))))))))), (.ow (.cons (.int .i64) (.cons .bool Z25))), (.ow (.cons (.int .i64) Z11))])), (.int .i64), (.int .i64), (.box Z6), (.ow (.one (.int .i64))), (.int .i64)]) [0, 2, 3, 4, 5, 6, 8, 9, 11, 16]]
def gaqk5 : List (Nat × Cut) := (1048211, cutOf gaq_1048211s [0, 2, 3, 4, 5, 6, 8, 9, 11, 16, 17, 18] gaq_1048211w fun x => gaq_1048211 x.1.1 x.1.2.1 x.2.1.1 x.2.1.2.1 x.2.1.2.2.1 x.2.1.2.2.2.1 x.2.2.1.1 x.2.2.1.2.1 x.2.2.2.1.1 x.2.2.2.1.2.1 x.2.2.2.2.1.1 x.2.2.2.2.1.2.1 x.2.2.2.2.1.2.2.1 x.2.2.2.2.1.2.2.2.1 x.2.2.2.2.2.1 x.2.2.2.2.2.2.1 x.2.2.2.2.2.2.2.1.1 x.2.2.2.2.2.2.2.1.2.1 x.2.2.2.2.2.2.2.2.1 x.2.2.2.2.2.2.2.2.2.1 x.2.2.2.2.2.2.2.2.2.2.1.1 x.2.2.2.2.2.2.2.2.2.2.1.2.1 x.2.2.2.2.2.2.2.2.2.2.1.2.2.1 x.2.2.2.2.2.2.2.2.2.2.1.2.2.2.1 x.2.2.2.2.2.2.2.2.2.2.1.2.2.2.2.1 x.2.2.2.2.2.2.2.2.2.2.1.2.2.2.2.2.1 x.2.2.2.2.2.2.2.2.2.2.1.2.2.2.2.2.2.1 x.2.2.2.2.2.2.2.2.2.2.1.2.2.2.2.2.2.2.1 x.2.2.2.2.2.2.2.2.2.2.1.2.2.2.2.2.2.2.2.1 x.2.2.2.2.2.2.2.2.2.2.1.2.2.2.2.2.2.2.2.2.1 x.2.2.2.2.2.2.2.2.2.2.2.1) :: gaqk4
theorem gaqc5 : CutsOk tP gaqC gaqB gaqk5 :=
 CutsOk.cut tM rfl gaqL gaqc4 1048211 gaq_1048211s [0, 2, 3, 4, 5, 6, 8, 9, 11, 16, 17, 18] gaq_1048211w (fun x => gaq_1048211 x.1.1 x.1.2.1 x.2.1.1 x.2.1.2.1 x.2.1.2.2.1 x.2.1.2.2.2.1 x.2.2.1.1 x.2.2.1.2.1 x.2.2.2.1.1 x.2.2.2.1.2.1 x.2.2.2.2.1.1 x.2.2.2.2.1.2.1 x.2.2.2.2.1.2.2.1 x.2.2.2.2.1.2.2.2.1 x.2.2.2.2.2.1 x.2.2.2.2.2.2.1 x.2.2.2.2.2.2.2.1.1 x.2.2.2.2.2.2.2.1.2.1 x.2.2.2.2.2.2.2.2.1 x.2.2.2.2.2.2.2.2.2.1 x.2.2.2.2.2.2.2.2.2.2.1.1 x.2.2.2.2.2.2.2.2.2.2.1.2.1 x.2.2.2.2.2.2.2.2.2.2.1.2.2.1 x.2.2.2.2.2.2.2.2.2.2.1.2.2.2.1 x.2.2.2.2.2.2.2.2.2.2.1.2.2.2.2.1 x.2.2.2.2.2.2.2.2.2.2.1.2.2.2.2.2.1 x.2.2.2.2.2.2.2.2.2.2.1.2.2.2.2.2.2.1 x.2.2.2.2.2.2.2.2.2.2.1.2.2.2.2.2.2.2.1 x.2.2.2.2.2.2.2.2.2.2.1.2.2.2.2.2.2.2.2.1 x.2.2.2.2.2.2.2.2.2.2.1.2.2.2.2.2.2.2.2.2.1 x.2.2.2.2.2.2.2.2.2.2.2.1) (by kernel_rfl) fun x => by kernel_rfl
def gaq_16378s : Shps := (shps [(.box Z10), (.box (shps [(.ow Z21), (.ow (.cons (.int .i64) (.cons (.int .i64) (.cons (.int .i64) (.cons (.int .i64) (.cons .bool (.cons .bool (.cons (.int .i64) (.cons (.int .i64) Z18))))))))), (.ow (.cons (.int .i64) (.cons .bool Z25))), (.ow (.cons (.int .i64) Z11))])), (.box Z6), (.box Z6), (.box (shps [(.ow Z21), (.ow (.cons (.int .i64) (.cons (.int .i64) (.cons (.int .i64) (.cons (.int .i64) (.cons .bool (.cons .bool (.cons (.int .i64) (.cons (.int .i64) Z18))))))))), (.ow (.cons (.int .i64) (.cons .bool Z25))), (.ow (.cons (.int .i64) Z11))])), (.int .i64), (.int .i64), (.box Z6), (.ow (.one (.int .i64))), (.int .i64)])
def gaq_16378w : List Way := [.exit 6 (shps [(.box Z10), (.box (shps [(.ow Z21), (.ow (.cons (.int .i64) (.cons (.int .i64) (.cons (.int .i64) (.cons (.int .i64) (.cons .bool (.cons .bool (.cons (.int .i64) (.cons (.int .i64) Z18))))))))), (.ow (.cons (.int .i64) (.cons .bool Z25))), (.ow (.cons (.int .i64) Z11))])), (.box Z6), (.box Z6), (.box (shps [(.ow Z21), (.ow (.cons (.int .i64) (.cons (.int .i64) (.cons (.int .i64) (.cons (.int .i64) (.cons .bool (.cons .bool (.cons (.int .i64) (.cons (.int .i64) Z18))))))))), (.ow (.cons (.int .i64) (.cons .bool Z25))), (.ow (.cons (.int .i64) Z11))])), (.box Z6)]) [0, 2, 3, 4, 5, 9]]
def gaqk6 : List (Nat × Cut) := (16378, loopOf gaq_16378s [0, 2, 3, 4, 5, 6, 8, 9, 11, 16] gaq_16378w gaq_16378F) :: gaqk5
theorem gaqc6 : CutsOk tP gaqC gaqB gaqk6 :=
 CutsOk.loop tM rfl gaqL gaqc5 16378 gaq_16378s [0, 2, 3, 4, 5, 6, 8, 9, 11, 16] gaq_16378w gaq_16378F (by kernel_rfl) (by kernel_rfl) fun x => by kernel_rfl
def gaq_2047s : Shps := (shps [(.box Z10), (.box (shps [(.ow Z21), (.ow (.cons (.int .i64) (.cons (.int .i64) (.cons (.int .i64) (.cons (.int .i64) (.cons .bool (.cons .bool (.cons (.int .i64) (.cons (.int .i64) Z18))))))))), (.ow (.cons (.int .i64) (.cons .bool Z25))), (.ow (.cons (.int .i64) Z11))])), (.box Z6), (.box Z6), (.box (shps [(.ow Z21), (.ow (.cons (.int .i64) (.cons (.int .i64) (.cons (.int .i64) (.cons (.int .i64) (.cons .bool (.cons .bool (.cons (.int .i64) (.cons (.int .i64) Z18))))))))), (.ow (.cons (.int .i64) (.cons .bool Z25))), (.ow (.cons (.int .i64) Z11))])), (.int .i64), (.int .i64), (.box Z6), (.ow (.one (.int .i64)))])
def gaq_2047w : List Way := [.ret (shps [(.box Z10), (.box (shps [(.ow Z21), (.ow (.cons (.int .i64) (.cons (.int .i64) (.cons (.int .i64) (.cons (.int .i64) (.cons .bool (.cons .bool (.cons (.int .i64) (.cons (.int .i64) Z18))))))))), (.ow (.cons (.int .i64) (.cons .bool Z25))), (.ow (.cons (.int .i64) Z11))])), (.box Z6), (.box Z6)]) [0, 2, 3, 4]]
def gaqk7 : List (Nat × Cut) := (2047, cutOf gaq_2047s [0, 2, 3, 4, 5, 6, 8, 9, 11] gaq_2047w fun x => gaq_2047 x.1.1 x.1.2.1 x.2.1.1 x.2.1.2.1 x.2.1.2.2.1 x.2.1.2.2.2.1 x.2.2.1.1 x.2.2.1.2.1 x.2.2.2.1.1 x.2.2.2.1.2.1 x.2.2.2.2.1.1 x.2.2.2.2.1.2.1 x.2.2.2.2.1.2.2.1 x.2.2.2.2.1.2.2.2.1 x.2.2.2.2.2.1 x.2.2.2.2.2.2.1 x.2.2.2.2.2.2.2.1.1 x.2.2.2.2.2.2.2.1.2.1 x.2.2.2.2.2.2.2.2.1) :: gaqk6
theorem gaqc7 : CutsOk tP gaqC gaqB gaqk7 :=
 CutsOk.cut tM rfl gaqL gaqc6 2047 gaq_2047s [0, 2, 3, 4, 5, 6, 8, 9, 11] gaq_2047w (fun x => gaq_2047 x.1.1 x.1.2.1 x.2.1.1 x.2.1.2.1 x.2.1.2.2.1 x.2.1.2.2.2.1 x.2.2.1.1 x.2.2.1.2.1 x.2.2.2.1.1 x.2.2.2.1.2.1 x.2.2.2.2.1.1 x.2.2.2.2.1.2.1 x.2.2.2.2.1.2.2.1 x.2.2.2.2.1.2.2.2.1 x.2.2.2.2.2.1 x.2.2.2.2.2.2.1 x.2.2.2.2.2.2.2.1.1 x.2.2.2.2.2.2.2.1.2.1 x.2.2.2.2.2.2.2.2.1) (by kernel_rfl) fun x => by kernel_rfl
def gaq_15s : Shps := (shps [(.box Z10), (.box (shps [(.ow Z21), (.ow (.cons (.int .i64) (.cons (.int .i64) (.cons (.int .i64) (.cons (.int .i64) (.cons .bool (.cons .bool (.cons (.int .i64) (.cons (.int .i64) Z18))))))))), (.ow (.cons (.int .i64) (.cons .bool Z25))), (.ow (.cons (.int .i64) Z11))])), (.box Z6), (.box Z6), (.box (shps [(.ow Z21), (.ow (.cons (.int .i64) (.cons (.int .i64) (.cons (.int .i64) (.cons (.int .i64) (.cons .bool (.cons .bool (.cons (.int .i64) (.cons (.int .i64) Z18))))))))), (.ow (.cons (.int .i64) (.cons .bool Z25))), (.ow (.cons (.int .i64) Z11))]))])
def gaq_15w : List Way := [.ret (shps [(.box Z10), (.box (shps [(.ow Z21), (.ow (.cons (.int .i64) (.cons (.int .i64) (.cons (.int .i64) (.cons (.int .i64) (.cons .bool (.cons .bool (.cons (.int .i64) (.cons (.int .i64) Z18))))))))), (.ow (.cons (.int .i64) (.cons .bool Z25))), (.ow (.cons (.int .i64) Z11))])), (.box Z6), (.box Z6)]) [0, 2, 3, 4]]
def gaqk8 : List (Nat × Cut) := (15, cutOf gaq_15s [0, 2, 3, 4, 5] gaq_15w fun x => gaq_15 x.1.1 x.1.2.1 x.2.1.1 x.2.1.2.1 x.2.1.2.2.1 x.2.1.2.2.2.1 x.2.2.1.1 x.2.2.1.2.1 x.2.2.2.1.1 x.2.2.2.1.2.1 x.2.2.2.2.1.1 x.2.2.2.2.1.2.1 x.2.2.2.2.1.2.2.1 x.2.2.2.2.1.2.2.2.1) :: gaqk7
theorem gaqc8 : CutsOk tP gaqC gaqB gaqk8 :=
 CutsOk.cut tM rfl gaqL gaqc7 15 gaq_15s [0, 2, 3, 4, 5] gaq_15w (fun x => gaq_15 x.1.1 x.1.2.1 x.2.1.1 x.2.1.2.1 x.2.1.2.2.1 x.2.1.2.2.2.1 x.2.2.1.1 x.2.2.1.2.1 x.2.2.2.1.1 x.2.2.2.1.2.1 x.2.2.2.2.1.1 x.2.2.2.2.1.2.1 x.2.2.2.2.1.2.2.1 x.2.2.2.2.1.2.2.2.1) (by kernel_rfl) fun x => by kernel_rfl
def gaqE : Entry := ⟨40, gaqa, (.tup (shps [(.agg (shps [(.ow Z21), (.sl (.cons (.int .i64) (.cons (.int .i64) (.cons (.int .i64) (.cons (.int .i64) (.cons .bool (.cons .bool (.cons (.int .i64) (.cons (.int .i64) Z18))))))))), (.sl (.cons (.int .i64) (.cons .bool Z25))), (.sl (.cons (.int .i64) Z11))])), (.agg Z6), (.agg Z6)])), gaqo, fun x => gaq x.1.1 x.1.2.1⟩
theorem gaqK : EntryOk tP gaqE :=
 entry_ok tM rfl gaqL (fn := Go.Proofs.Try.f40) Go.Proofs.Try.func40 (by kernel_rfl) (root := gaqB) (by kernel_rfl) gaqc8 [14] gaqa (.tup (shps [(.agg (shps [(.ow Z21), (.sl (.cons (.int .i64) (.cons (.int .i64) (.cons (.int .i64) (.cons (.int .i64) (.cons .bool (.cons .bool (.cons (.int .i64) (.cons (.int .i64) Z18))))))))), (.sl (.cons (.int .i64) (.cons .bool Z25))), (.sl (.cons (.int .i64) Z11))])), (.agg Z6), (.agg Z6)])) gaqo (fun x => gaq x.1.1 x.1.2.1) (fun x => by kernel_rfl) fun x => by kernel_rfl
def garC : Ctx := ⟨tP, 5, 0, [(1, [3, 4])], [], []⟩
def garB : Code := (Go.Proofs.Try.f38.body).getD .skip
def gara : Shps := (shps [(.int .i64)])
def garo : Shps := (shps [])
def garO : List Entry := []
theorem garL : ∀ e ∈ garO, EntryOk tP e := by
 intro e he; cases he
def gark0 : List (Nat × Cut) := []
theorem garc0 : CutsOk tP garC garB gark0 := CutsOk.nil
def garE : Entry := ⟨38, gara, .bool, garo, fun x => gar x.1⟩
theorem garK : EntryOk tP garE :=
 entry_ok tM rfl garL (fn := Go.Proofs.Try.f38) Go.Proofs.Try.func38 (by kernel_rfl) (root := garB) (by kernel_rfl) garc0 [] gara .bool garo (fun x => gar x.1) (fun x => by kernel_rfl) fun x => by kernel_rfl
def gasC : Ctx := ⟨tP, 32, 1, [(1, [10, 11, 12, 13, 14, 15]), (2, [16, 17]), (3, [19, 20, 21, 22, 23, 24]), (4, [25, 26, 27, 28, 29, 30]), (5, [31])], [], []⟩
def gasB : Code := (Go.Proofs.Try.f41.body).getD .skip
def gasa : Shps := (shps [(.box Z10), (.int .i64), (.int .i64), (.int .i64)])
def gaso : Shps := (shps [(.box Z10)])
def gasO : List Entry := [gadE, garE, gabE]
theorem gasL : ∀ e ∈ gasO, EntryOk tP e := by
 intro e he
 simp only [gasO, List.mem_cons, List.not_mem_nil, or_false] at he
 rcases he with rfl | rfl | rfl
 ·exact gadK
 ·exact garK
 ·exact gabK
def gask0 : List (Nat × Cut) := []
theorem gasc0 : CutsOk tP gasC gasB gask0 := CutsOk.nil
def gasE : Entry := ⟨41, gasa, (.agg Z2), gaso, fun x => gas x.1.1 x.1.2.1 x.2.1 x.2.2.1 x.2.2.2.1⟩
theorem gasK : EntryOk tP gasE :=
 entry_ok tM rfl gasL (fn := Go.Proofs.Try.f41) Go.Proofs.Try.func41 (by kernel_rfl) (root := gasB) (by kernel_rfl) gasc0 [] gasa (.agg Z2) gaso (fun x => gas x.1.1 x.1.2.1 x.2.1 x.2.2.1 x.2.2.2.1) (fun x => by kernel_rfl) fun x => by kernel_rfl
def gatC : Ctx := ⟨tP, 15, 1, [(1, [4, 5, 6, 7, 8]), (2, [9, 10, 11, 12, 13]), (3, [14])], [], []⟩
def gatB : Code := (Go.Proofs.Try.f75.body).getD .skip
def gata : Shps := (shps [(.box Z10)])
def gato : Shps := (shps [(.box Z10)])
def gatO : List Entry := [gadE, gabE]
theorem gatL : ∀ e ∈ gatO, EntryOk tP e := by
 intro e he
 simp only [gatO, List.mem_cons, List.not_mem_nil, or_false] at he
 rcases he with rfl | rfl
 ·exact gadK
 ·exact gabK
def gatk0 : List (Nat × Cut) := []
theorem gatc0 : CutsOk tP gatC gatB gatk0 := CutsOk.nil
def gatE : Entry := ⟨75, gata, (.agg Z13), gato, fun x => gat x.1.1 x.1.2.1⟩
theorem gatK : EntryOk tP gatE :=
 entry_ok tM rfl gatL (fn := Go.Proofs.Try.f75) Go.Proofs.Try.func75 (by kernel_rfl) (root := gatB) (by kernel_rfl) gatc0 [] gata (.agg Z13) gato (fun x => gat x.1.1 x.1.2.1) (fun x => by kernel_rfl) fun x => by kernel_rfl
def gauC : Ctx := ⟨tP, 54, 1, [(1, [8, 9, 10, 11, 12, 13, 14]), (2, [15, 16]), (4, [18, 19, 20, 21]), (6, [25, 26, 27, 28, 29, 30]), (7, [32, 33]), (8, [34]), (5, [23, 24]), (9, [35]), (10, [36, 37, 38]), (11, [39, 40]), (12, [42, 43, 44, 45, 46]), (13, [47]), (15, [49, 50, 51, 52]), (16, [53])], [], []⟩
def gauB : Code := (Go.Proofs.Try.f42.body).getD .skip
def gaua : Shps := (shps [(.box Z10), (.agg (shps [(.sl Z21), (.sl (.cons (.int .i64) (.cons (.int .i64) (.cons (.int .i64) (.cons (.int .i64) (.cons .bool (.cons .bool (.cons (.int .i64) (.cons (.int .i64) Z18))))))))), (.sl (.cons (.int .i64) (.cons .bool Z25))), (.sl (.cons (.int .i64) Z11)), (.sl (.cons (.int .i64) (.cons (.int .i64) (.cons (.int .i64) (.cons (.int .i64) (.cons (.int .i64) (.cons (.int .i64) Z18))))))), (.sl (.cons (.int .i64) (.cons (.int .i64) (.cons (.int .i64) (.cons (.int .i64) Z18))))), (.sl (.cons (.sl (.cons (.int .i64) (.cons (.int .i64) Z18))) (.cons (.int .i64) Z12))), (.sl (.one (.int .i64)))]))])
def gauo : Shps := (shps [(.box Z10)])
def gauO : List Entry := [gadE, gatE, gabE]
theorem gauL : ∀ e ∈ gauO, EntryOk tP e := by
 intro e he
 simp only [gauO, List.mem_cons, List.not_mem_nil, or_false] at he
 rcases he with rfl | rfl | rfl
 ·exact gadK
 ·exact gatK
 ·exact gabK
def gauk0 : List (Nat × Cut) := []
theorem gauc0 : CutsOk tP gauC gauB gauk0 := CutsOk.nil
def gau_466s : Shps := (shps [(.box Z10), (.box (shps [(.sl Z21), (.sl (.cons (.int .i64) (.cons (.int .i64) (.cons (.int .i64) (.cons (.int .i64) (.cons .bool (.cons .bool (.cons (.int .i64) (.cons (.int .i64) Z18))))))))), (.sl (.cons (.int .i64) (.cons .bool Z25))), (.sl (.cons (.int .i64) Z11)), (.sl (.cons (.int .i64) (.cons (.int .i64) (.cons (.int .i64) (.cons (.int .i64) (.cons (.int .i64) (.cons (.int .i64) Z18))))))), (.sl (.cons (.int .i64) (.cons (.int .i64) (.cons (.int .i64) (.cons (.int .i64) Z18))))), (.sl (.cons (.sl (.cons (.int .i64) (.cons (.int .i64) Z18))) (.cons (.int .i64) Z12))), (.sl (.one (.int .i64)))])), (.box Z3), (.box Z3), (.int .i64)])
def gau_466w : List Way := [.ret (shps [(.box Z10), (.box Z3)]) [0, 4], .exit 0 (shps [(.box Z10), (.box (shps [(.sl Z21), (.sl (.cons (.int .i64) (.cons (.int .i64) (.cons (.int .i64) (.cons (.int .i64) (.cons .bool (.cons .bool (.cons (.int .i64) (.cons (.int .i64) Z18))))))))), (.sl (.cons (.int .i64) (.cons .bool Z25))), (.sl (.cons (.int .i64) Z11)), (.sl (.cons (.int .i64) (.cons (.int .i64) (.cons (.int .i64) (.cons (.int .i64) (.cons (.int .i64) (.cons (.int .i64) Z18))))))), (.sl (.cons (.int .i64) (.cons (.int .i64) (.cons (.int .i64) (.cons (.int .i64) Z18))))), (.sl (.cons (.sl (.cons (.int .i64) (.cons (.int .i64) Z18))) (.cons (.int .i64) Z12))), (.sl (.one (.int .i64)))])), (.box Z3), (.box Z3)]) [0, 3, 4, 5]]
def gauk1 : List (Nat × Cut) := (466, loopOf gau_466s [0, 3, 4, 5, 6] gau_466w gau_466F) :: gauk0
theorem gauc1 : CutsOk tP gauC gauB gauk1 :=
 CutsOk.loop tM rfl gauL gauc0 466 gau_466s [0, 3, 4, 5, 6] gau_466w gau_466F (by kernel_rfl) (by kernel_rfl) fun x => by kernel_rfl
def gau_127s : Shps := (shps [(.box Z10), (.box Z3), (.box Z3), (.int .i64)])
def gau_127w : List Way := [.ret (shps [(.box Z10), (.box Z3)]) [0, 4]]
def gauk2 : List (Nat × Cut) := (127, cutOf gau_127s [0, 4, 5, 7] gau_127w fun x => gau_127 x.1.1 x.1.2.1 x.2.1.1 x.2.1.2.1 x.2.1.2.2.1 x.2.1.2.2.2.1 x.2.1.2.2.2.2.1 x.2.1.2.2.2.2.2.1 x.2.2.1.1 x.2.2.1.2.1 x.2.2.1.2.2.1 x.2.2.1.2.2.2.1 x.2.2.1.2.2.2.2.1 x.2.2.1.2.2.2.2.2.1 x.2.2.2.1) :: gauk1
theorem gauc2 : CutsOk tP gauC gauB gauk2 :=
 CutsOk.cut tM rfl gauL gauc1 127 gau_127s [0, 4, 5, 7] gau_127w (fun x => gau_127 x.1.1 x.1.2.1 x.2.1.1 x.2.1.2.1 x.2.1.2.2.1 x.2.1.2.2.2.1 x.2.1.2.2.2.2.1 x.2.1.2.2.2.2.2.1 x.2.2.1.1 x.2.2.1.2.1 x.2.2.1.2.2.1 x.2.2.1.2.2.2.1 x.2.2.1.2.2.2.2.1 x.2.2.1.2.2.2.2.2.1 x.2.2.2.1) (by kernel_rfl) fun x => by kernel_rfl
def gau_63s : Shps := (shps [(.box Z10), (.box Z3), (.box Z3), (.int .i64)])
def gau_63w : List Way := [.ret (shps [(.box Z10), (.box Z3)]) [0, 4]]
def gauk3 : List (Nat × Cut) := (63, cutOf gau_63s [0, 4, 5, 7] gau_63w fun x => gau_63 x.1.1 x.1.2.1 x.2.1.1 x.2.1.2.1 x.2.1.2.2.1 x.2.1.2.2.2.1 x.2.1.2.2.2.2.1 x.2.1.2.2.2.2.2.1 x.2.2.1.1 x.2.2.1.2.1 x.2.2.1.2.2.1 x.2.2.1.2.2.2.1 x.2.2.1.2.2.2.2.1 x.2.2.1.2.2.2.2.2.1 x.2.2.2.1) :: gauk2
theorem gauc3 : CutsOk tP gauC gauB gauk3 :=
 CutsOk.cut tM rfl gauL gauc2 63 gau_63s [0, 4, 5, 7] gau_63w (fun x => gau_63 x.1.1 x.1.2.1 x.2.1.1 x.2.1.2.1 x.2.1.2.2.1 x.2.1.2.2.2.1 x.2.1.2.2.2.2.1 x.2.1.2.2.2.2.2.1 x.2.2.1.1 x.2.2.1.2.1 x.2.2.1.2.2.1 x.2.2.1.2.2.2.1 x.2.2.1.2.2.2.2.1 x.2.2.1.2.2.2.2.2.1 x.2.2.2.1) (by kernel_rfl) fun x => by kernel_rfl
def gau_15s : Shps := (shps [(.box Z10), (.box (shps [(.sl Z21), (.sl (.cons (.int .i64) (.cons (.int .i64) (.cons (.int .i64) (.cons (.int .i64) (.cons .bool (.cons .bool (.cons (.int .i64) (.cons (.int .i64) Z18))))))))), (.sl (.cons (.int .i64) (.cons .bool Z25))), (.sl (.cons (.int .i64) Z11)), (.sl (.cons (.int .i64) (.cons (.int .i64) (.cons (.int .i64) (.cons (.int .i64) (.cons (.int .i64) (.cons (.int .i64) Z18))))))), (.sl (.cons (.int .i64) (.cons (.int .i64) (.cons (.int .i64) (.cons (.int .i64) Z18))))), (.sl (.cons (.sl (.cons (.int .i64) (.cons (.int .i64) Z18))) (.cons (.int .i64) Z12))), (.sl (.one (.int .i64)))])), (.box Z3), (.box Z3)])
def gau_15w : List Way := [.ret (shps [(.box Z10), (.box Z3)]) [0, 4]]
def gauk4 : List (Nat × Cut) := (15, cutOf gau_15s [0, 3, 4, 5] gau_15w fun x => gau_15 x.1.1 x.1.2.1 x.2.1.1 x.2.1.2.1 x.2.1.2.2.1 x.2.1.2.2.2.1 x.2.1.2.2.2.2.1 x.2.1.2.2.2.2.2.1 x.2.1.2.2.2.2.2.2.1 x.2.1.2.2.2.2.2.2.2.1 x.2.2.1.1 x.2.2.1.2.1 x.2.2.1.2.2.1 x.2.2.1.2.2.2.1 x.2.2.1.2.2.2.2.1 x.2.2.1.2.2.2.2.2.1 x.2.2.2.1.1 x.2.2.2.1.2.1 x.2.2.2.1.2.2.1 x.2.2.2.1.2.2.2.1 x.2.2.2.1.2.2.2.2.1 x.2.2.2.1.2.2.2.2.2.1) :: gauk3
theorem gauc4 : CutsOk tP gauC gauB gauk4 :=
 CutsOk.cut tM rfl gauL gauc3 15 gau_15s [0, 3, 4, 5] gau_15w (fun x => gau_15 x.1.1 x.1.2.1 x.2.1.1 x.2.1.2.1 x.2.1.2.2.1 x.2.1.2.2.2.1 x.2.1.2.2.2.2.1 x.2.1.2.2.2.2.2.1 x.2.1.2.2.2.2.2.2.1 x.2.1.2.2.2.2.2.2.2.1 x.2.2.1.1 x.2.2.1.2.1 x.2.2.1.2.2.1 x.2.2.1.2.2.2.1 x.2.2.1.2.2.2.2.1 x.2.2.1.2.2.2.2.2.1 x.2.2.2.1.1 x.2.2.2.1.2.1 x.2.2.2.1.2.2.1 x.2.2.2.1.2.2.2.1 x.2.2.2.1.2.2.2.2.1 x.2.2.2.1.2.2.2.2.2.1) (by kernel_rfl) fun x => by kernel_rfl
def gauE : Entry := ⟨42, gaua, (.agg Z3), gauo, fun x => gau x.1.1 x.1.2.1 x.2.1.1 x.2.1.2.1 x.2.1.2.2.1 x.2.1.2.2.2.1 x.2.1.2.2.2.2.1 x.2.1.2.2.2.2.2.1 x.2.1.2.2.2.2.2.2.1 x.2.1.2.2.2.2.2.2.2.1⟩
theorem gauK : EntryOk tP gauE :=
 entry_ok tM rfl gauL (fn := Go.Proofs.Try.f42) Go.Proofs.Try.func42 (by kernel_rfl) (root := gauB) (by kernel_rfl) gauc4 [] gaua (.agg Z3) gauo (fun x => gau x.1.1 x.1.2.1 x.2.1.1 x.2.1.2.1 x.2.1.2.2.1 x.2.1.2.2.2.1 x.2.1.2.2.2.2.1 x.2.1.2.2.2.2.2.1 x.2.1.2.2.2.2.2.2.1 x.2.1.2.2.2.2.2.2.2.1) (fun x => by kernel_rfl) fun x => by kernel_rfl
def gavC : Ctx := ⟨tP, 106, 1, [(1, [11, 12, 13, 14, 15, 16]), (2, [18, 19, 20, 21, 22]), (3, [23, 24, 25, 26, 27]), (4, [28]), (5, [30, 31, 32, 33, 34, 35, 36]), (6, [37, 38, 39, 40, 41]), (8, [42, 43, 44]), (10, [48, 49, 50, 51, 52]), (11, [54, 55, 56, 57, 58, 59, 60, 61, 62, 63]), (12, [64, 65, 66, 67, 68, 69, 70, 71, 72, 73, 74, 75, 76]), (13, [78, 79, 80, 81, 82, 83, 84, 85, 86, 87]), (9, [46, 47]), (14, [88, 89, 90, 91, 92]), (15, [93, 94, 95, 96, 97, 98, 99, 100, 101, 102, 103, 104, 105])], [], [1]⟩
def gavB : Code := (Go.Proofs.Try.f43.body).getD .skip
def gava : Shps := (shps [(.box Z10), (.int .i64), (.int .i64)])
def gavo : Shps := (shps [(.box Z10)])
def gavR (rec : ((List Int × Int × Unit) × Int × Int × Unit) → Option (List (Int × Int × Int × Int) × ((List Int × Int × Unit) × Unit))) : Entry := ⟨43, gava, (.ow (.cons (.int .i64) (.cons (.int .i64) Z18))), gavo, rec⟩
def gavO (rec : ((List Int × Int × Unit) × Int × Int × Unit) → Option (List (Int × Int × Int × Int) × ((List Int × Int × Unit) × Unit))) : List Entry := [gavR rec, gabE, gacE, gadE]
theorem gavL (rec : ((List Int × Int × Unit) × Int × Int × Unit) → Option (List (Int × Int × Int × Int) × ((List Int × Int × Unit) × Unit))) (hrec : EntryOk tP (gavR rec)) : ∀ e ∈ (gavO rec), EntryOk tP e := by
 intro e he
 simp only [gavO, List.mem_cons, List.not_mem_nil, or_false] at he
 rcases he with rfl | rfl | rfl | rfl
 ·exact hrec
 ·exact gabK
 ·exact gacK
 ·exact gadK
def gavk0 (rec : ((List Int × Int × Unit) × Int × Int × Unit) → Option (List (Int × Int × Int × Int) × ((List Int × Int × Unit) × Unit))) : List (Nat × Cut) := []
theorem gavc0 (rec : ((List Int × Int × Unit) × Int × Int × Unit) → Option (List (Int × Int × Int × Int) × ((List Int × Int × Unit) × Unit))) (hrec : EntryOk tP (gavR rec)) : CutsOk tP gavC gavB (gavk0 rec) := CutsOk.nil
def gav_16201s : Shps := (shps [(.box Z10), (.ow (.cons (.int .i64) (.cons (.int .i64) Z18))), (.ow (.cons (.int .i64) (.cons (.int .i64) Z18))), (.int .i64)])
def gav_16201w : List Way := [.norm (shps [(.box Z10), (.ow (.cons (.int .i64) (.cons (.int .i64) Z18))), (.ow (.cons (.int .i64) (.cons (.int .i64) Z18))), (.int .i64)]) [0, 7, 8, 9]]
def gavk1 (rec : ((List Int × Int × Unit) × Int × Int × Unit) → Option (List (Int × Int × Int × Int) × ((List Int × Int × Unit) × Unit))) : List (Nat × Cut) := (16201, cutOf gav_16201s [0, 7, 8, 9] gav_16201w fun x => gav_16201 rec x.1.1 x.1.2.1 x.2.1 x.2.2.1 x.2.2.2.1) :: (gavk0 rec)
theorem gavc1 (rec : ((List Int × Int × Unit) × Int × Int × Unit) → Option (List (Int × Int × Int × Int) × ((List Int × Int × Unit) × Unit))) (hrec : EntryOk tP (gavR rec)) : CutsOk tP gavC gavB (gavk1 rec) :=
 CutsOk.cut tM rfl (gavL rec hrec) (gavc0 rec hrec) 16201 gav_16201s [0, 7, 8, 9] gav_16201w (fun x => gav_16201 rec x.1.1 x.1.2.1 x.2.1 x.2.2.1 x.2.2.2.1) (by kernel_rfl) fun x => by kernel_rfl
def gav_506s : Shps := (shps [(.box Z10), (.ow (.cons (.int .i64) (.cons (.int .i64) Z18))), (.ow (.cons (.int .i64) (.cons (.int .i64) Z18))), (.int .i64)])
def gav_506w : List Way := [.exit 0 (shps [(.box Z10), (.ow (.cons (.int .i64) (.cons (.int .i64) Z18))), (.ow (.cons (.int .i64) (.cons (.int .i64) Z18)))]) [0, 7, 8]]
def gavk2 (rec : ((List Int × Int × Unit) × Int × Int × Unit) → Option (List (Int × Int × Int × Int) × ((List Int × Int × Unit) × Unit))) : List (Nat × Cut) := (506, loopOf gav_506s [0, 7, 8, 9] gav_506w (gav_506F rec)) :: (gavk1 rec)
theorem gavc2 (rec : ((List Int × Int × Unit) × Int × Int × Unit) → Option (List (Int × Int × Int × Int) × ((List Int × Int × Unit) × Unit))) (hrec : EntryOk tP (gavR rec)) : CutsOk tP gavC gavB (gavk2 rec) :=
 CutsOk.loop tM rfl (gavL rec hrec) (gavc1 rec hrec) 506 gav_506s [0, 7, 8, 9] gav_506w (gav_506F rec) (by kernel_rfl) (by kernel_rfl) fun x => by kernel_rfl
theorem gavKb (rec : ((List Int × Int × Unit) × Int × Int × Unit) → Option (List (Int × Int × Int × Int) × ((List Int × Int × Unit) × Unit))) (hrec : EntryOk tP (gavR rec)) : EntryOk tP ⟨43, gava, (.ow (.cons (.int .i64) (.cons (.int .i64) Z18))), gavo, fun x => gavb rec x.1.1 x.1.2.1 x.2.1 x.2.2.1⟩ :=
 entry_ok tM rfl (gavL rec hrec) (fn := Go.Proofs.Try.f43) Go.Proofs.Try.func43 (by kernel_rfl) (root := gavB) (by kernel_rfl) (gavc2 rec hrec) [] gava (.ow (.cons (.int .i64) (.cons (.int .i64) Z18))) gavo (fun x => gavb rec x.1.1 x.1.2.1 x.2.1 x.2.2.1) (fun x => by kernel_rfl) fun x => by kernel_rfl
theorem gavKi : ∀ n, EntryOk tP (gavR (gavi n))
 | 0 => fun x y h => by cases h
 | n + 1 => gavKb (gavi n) (gavKi n)
def gavE : Entry := ⟨43, gava, (.ow (.cons (.int .i64) (.cons (.int .i64) Z18))), gavo, fun x => gav x.1.1 x.1.2.1 x.2.1 x.2.2.1⟩
theorem gavK : EntryOk tP gavE := gavKi 1000000
def gawC : Ctx := ⟨tP, 181, 1, [(1, [18, 19, 20, 21, 22, 23]), (2, [24, 25]), (3, [26, 27, 28, 29]), (4, [31, 32, 33, 34, 35, 36, 37, 38, 39, 40]), (5, [41, 42, 43, 44, 45, 46, 47, 48, 49, 50, 51, 52]), (6, [53, 54, 55, 56, 57, 58, 59]), (7, [60, 61, 62, 63, 64]), (8, [65, 66]), (9, [67]), (11, [71, 72]), (12, [73, 74, 75, 76, 77, 78, 79, 80, 81, 82, 83, 84, 85, 86]), (10, [69, 70]), (14, [87, 88, 89, 90]), (16, [94, 95, 96, 97, 98, 99, 100, 101, 102, 103, 104]), (15, [92, 93]), (18, [105, 106, 107, 108]), (20, [112, 113, 114, 115, 116, 117, 118, 119, 120, 121, 122]), (19, [110, 111]), (21, [123, 124]), (22, [125]), (24, [129, 130, 131, 132, 133, 134, 135, 136]), (23, [127, 128]), (25, [137, 138]), (26, [139]), (28, [143, 144, 145, 146, 147, 148, 149, 150, 151, 152]), (30, [153, 154]), (32, [158]), (33, [160, 161, 162, 163, 164, 165]), (31, [156, 157]), (34, [166, 167, 168, 169, 170, 171]), (27, [141, 142]), (35, [172, 173, 174, 175, 176, 177]), (36, [178, 179, 180])], [], []⟩
def gawB : Code := (Go.Proofs.Try.f12.body).getD .skip
def gawa : Shps := (shps [(.box Z10)])
def gawo : Shps := (shps [(.box Z10)])
def gawO : List Entry := [gaqE, gadE, gabE, gasE, gauE, gavE, gacE]
theorem gawL : ∀ e ∈ gawO, EntryOk tP e := by
 intro e he
 simp only [gawO, List.mem_cons, List.not_mem_nil, or_false] at he
 rcases he with rfl | rfl | rfl | rfl | rfl | rfl | rfl
 ·exact gaqK
 ·exact gadK
 ·exact gabK
 ·exact gasK
 ·exact gauK
 ·exact gavK
 ·exact gacK
def gawk0 : List (Nat × Cut) := []
theorem gawc0 : CutsOk tP gawC gawB gawk0 := CutsOk.nil
def gaw_506s : Shps := (shps [(.box Z10), (.box (shps [(.ow Z21), (.ow (.cons (.int .i64) (.cons (.int .i64) (.cons (.int .i64) (.cons (.int .i64) (.cons .bool (.cons .bool (.cons (.int .i64) (.cons (.int .i64) Z18))))))))), (.ow (.cons (.int .i64) (.cons .bool Z25))), (.ow (.cons (.int .i64) Z11)), (.ow (.cons (.int .i64) (.cons (.int .i64) (.cons (.int .i64) (.cons (.int .i64) (.cons (.int .i64) (.cons (.int .i64) Z18))))))), (.ow (.cons (.int .i64) (.cons (.int .i64) (.cons (.int .i64) (.cons (.int .i64) Z18))))), (.ow (.cons (.sl (.cons (.int .i64) (.cons (.int .i64) Z18))) (.cons (.int .i64) Z12))), (.ow (.one (.int .i64)))])), (.box Z6), (.box Z6), (.box (shps [.junk, (.sl (.cons (.int .i64) (.cons (.int .i64) (.cons (.int .i64) (.cons (.int .i64) (.cons .bool (.cons .bool (.cons (.int .i64) (.cons (.int .i64) Z18))))))))), (.sl (.cons (.int .i64) (.cons .bool Z25))), (.sl (.cons (.int .i64) Z11))])), (.box Z6), (.box Z6), (.box (shps [(.ow Z21), (.sl (.cons (.int .i64) (.cons (.int .i64) (.cons (.int .i64) (.cons (.int .i64) (.cons .bool (.cons .bool (.cons (.int .i64) (.cons (.int .i64) Z18))))))))), (.sl (.cons (.int .i64) (.cons .bool Z25))), (.sl (.cons (.int .i64) Z11)), (.ow (.cons (.int .i64) (.cons (.int .i64) (.cons (.int .i64) (.cons (.int .i64) (.cons (.int .i64) (.cons (.int .i64) Z18))))))), (.ow (.cons (.int .i64) (.cons (.int .i64) (.cons (.int .i64) (.cons (.int .i64) Z18))))), (.ow (.cons (.sl (.cons (.int .i64) (.cons (.int .i64) Z18))) (.cons (.int .i64) Z12))), (.ow (.one (.int .i64)))])), (.int .i64), (.int .i64)])
def gaw_506w : List Way := [.exit 0 (shps [(.box Z10), (.box (shps [(.ow Z21), (.ow (.cons (.int .i64) (.cons (.int .i64) (.cons (.int .i64) (.cons (.int .i64) (.cons .bool (.cons .bool (.cons (.int .i64) (.cons (.int .i64) Z18))))))))), (.ow (.cons (.int .i64) (.cons .bool Z25))), (.ow (.cons (.int .i64) Z11)), (.ow (.cons (.int .i64) (.cons (.int .i64) (.cons (.int .i64) (.cons (.int .i64) (.cons (.int .i64) (.cons (.int .i64) Z18))))))), (.ow (.cons (.int .i64) (.cons (.int .i64) (.cons (.int .i64) (.cons (.int .i64) Z18))))), (.ow (.cons (.sl (.cons (.int .i64) (.cons (.int .i64) Z18))) (.cons (.int .i64) Z12))), (.ow (.one (.int .i64)))])), (.box Z6), (.box Z6), (.box (shps [.junk, (.sl (.cons (.int .i64) (.cons (.int .i64) (.cons (.int .i64) (.cons (.int .i64) (.cons .bool (.cons .bool (.cons (.int .i64) (.cons (.int .i64) Z18))))))))), (.sl (.cons (.int .i64) (.cons .bool Z25))), (.sl (.cons (.int .i64) Z11))])), (.box Z6), (.box Z6), (.box (shps [(.ow Z21), (.sl (.cons (.int .i64) (.cons (.int .i64) (.cons (.int .i64) (.cons (.int .i64) (.cons .bool (.cons .bool (.cons (.int .i64) (.cons (.int .i64) Z18))))))))), (.sl (.cons (.int .i64) (.cons .bool Z25))), (.sl (.cons (.int .i64) Z11)), (.ow (.cons (.int .i64) (.cons (.int .i64) (.cons (.int .i64) (.cons (.int .i64) (.cons (.int .i64) (.cons (.int .i64) Z18))))))), (.ow (.cons (.int .i64) (.cons (.int .i64) (.cons (.int .i64) (.cons (.int .i64) Z18))))), (.ow (.cons (.sl (.cons (.int .i64) (.cons (.int .i64) Z18))) (.cons (.int .i64) Z12))), (.ow (.one (.int .i64)))])), (.int .i64)]) [0, 2, 3, 4, 5, 6, 7, 8, 9]]
def gawk1 : List (Nat × Cut) := (506, loopOf gaw_506s [0, 2, 3, 4, 5, 6, 7, 8, 9, 10] gaw_506w gaw_506F) :: gawk0
theorem gawc1 : CutsOk tP gawC gawB gawk1 :=
 CutsOk.loop tM rfl gawL gawc0 506 gaw_506s [0, 2, 3, 4, 5, 6, 7, 8, 9, 10] gaw_506w gaw_506F (by kernel_rfl) (by kernel_rfl) fun x => by kernel_rfl
def gaw_1018s : Shps := (shps [(.box Z10), (.box (shps [(.ow Z21), (.ow (.cons (.int .i64) (.cons (.int .i64) (.cons (.int .i64) (.cons (.int .i64) (.cons .bool (.cons .bool (.cons (.int .i64) (.cons (.int .i64) Z18))))))))), (.ow (.cons (.int .i64) (.cons .bool Z25))), (.ow (.cons (.int .i64) Z11)), (.ow (.cons (.int .i64) (.cons (.int .i64) (.cons (.int .i64) (.cons (.int .i64) (.cons (.int .i64) (.cons (.int .i64) Z18))))))), (.ow (.cons (.int .i64) (.cons (.int .i64) (.cons (.int .i64) (.cons (.int .i64) Z18))))), (.ow (.cons (.sl (.cons (.int .i64) (.cons (.int .i64) Z18))) (.cons (.int .i64) Z12))), (.ow (.one (.int .i64)))])), (.box Z6), (.box Z6), (.box (shps [.junk, (.sl (.cons (.int .i64) (.cons (.int .i64) (.cons (.int .i64) (.cons (.int .i64) (.cons .bool (.cons .bool (.cons (.int .i64) (.cons (.int .i64) Z18))))))))), (.sl (.cons (.int .i64) (.cons .bool Z25))), (.sl (.cons (.int .i64) Z11))])), (.box Z6), (.box Z6), (.box (shps [(.ow Z21), (.sl (.cons (.int .i64) (.cons (.int .i64) (.cons (.int .i64) (.cons (.int .i64) (.cons .bool (.cons .bool (.cons (.int .i64) (.cons (.int .i64) Z18))))))))), (.sl (.cons (.int .i64) (.cons .bool Z25))), (.sl (.cons (.int .i64) Z11)), (.ow (.cons (.int .i64) (.cons (.int .i64) (.cons (.int .i64) (.cons (.int .i64) (.cons (.int .i64) (.cons (.int .i64) Z18))))))), (.ow (.cons (.int .i64) (.cons (.int .i64) (.cons (.int .i64) (.cons (.int .i64) Z18))))), (.ow (.cons (.sl (.cons (.int .i64) (.cons (.int .i64) Z18))) (.cons (.int .i64) Z12))), (.ow (.one (.int .i64)))])), (.int .i64), (.int .i64)])
def gaw_1018w : List Way := [.exit 2 (shps [(.box Z10), (.box (shps [(.ow Z21), (.ow (.cons (.int .i64) (.cons (.int .i64) (.cons (.int .i64) (.cons (.int .i64) (.cons .bool (.cons .bool (.cons (.int .i64) (.cons (.int .i64) Z18))))))))), (.ow (.cons (.int .i64) (.cons .bool Z25))), (.ow (.cons (.int .i64) Z11)), (.ow (.cons (.int .i64) (.cons (.int .i64) (.cons (.int .i64) (.cons (.int .i64) (.cons (.int .i64) (.cons (.int .i64) Z18))))))), (.ow (.cons (.int .i64) (.cons (.int .i64) (.cons (.int .i64) (.cons (.int .i64) Z18))))), (.ow (.cons (.sl (.cons (.int .i64) (.cons (.int .i64) Z18))) (.cons (.int .i64) Z12))), (.ow (.one (.int .i64)))])), (.box Z6), (.box Z6), (.box (shps [.junk, (.sl (.cons (.int .i64) (.cons (.int .i64) (.cons (.int .i64) (.cons (.int .i64) (.cons .bool (.cons .bool (.cons (.int .i64) (.cons (.int .i64) Z18))))))))), (.sl (.cons (.int .i64) (.cons .bool Z25))), (.sl (.cons (.int .i64) Z11))])), (.box Z6), (.box Z6), (.box (shps [(.ow Z21), (.sl (.cons (.int .i64) (.cons (.int .i64) (.cons (.int .i64) (.cons (.int .i64) (.cons .bool (.cons .bool (.cons (.int .i64) (.cons (.int .i64) Z18))))))))), (.sl (.cons (.int .i64) (.cons .bool Z25))), (.sl (.cons (.int .i64) Z11)), (.ow (.cons (.int .i64) (.cons (.int .i64) (.cons (.int .i64) (.cons (.int .i64) (.cons (.int .i64) (.cons (.int .i64) Z18))))))), (.ow (.cons (.int .i64) (.cons (.int .i64) (.cons (.int .i64) (.cons (.int .i64) Z18))))), (.ow (.cons (.sl (.cons (.int .i64) (.cons (.int .i64) Z18))) (.cons (.int .i64) Z12))), (.ow (.one (.int .i64)))])), (.int .i64)]) [0, 2, 3, 4, 5, 6, 7, 8, 9]]
def gawk2 : List (Nat × Cut) := (1018, loopOf gaw_1018s [0, 2, 3, 4, 5, 6, 7, 8, 9, 12] gaw_1018w gaw_1018F) :: gawk1
theorem gawc2 : CutsOk tP gawC gawB gawk2 :=
 CutsOk.loop tM rfl gawL gawc1 1018 gaw_1018s [0, 2, 3, 4, 5, 6, 7, 8, 9, 12] gaw_1018w gaw_1018F (by kernel_rfl) (by kernel_rfl) fun x => by kernel_rfl
def gaw_2042s : Shps := (shps [(.box Z10), (.box (shps [(.ow Z21), (.ow (.cons (.int .i64) (.cons (.int .i64) (.cons (.int .i64) (.cons (.int .i64) (.cons .bool (.cons .bool (.cons (.int .i64) (.cons (.int .i64) Z18))))))))), (.ow (.cons (.int .i64) (.cons .bool Z25))), (.ow (.cons (.int .i64) Z11)), (.ow (.cons (.int .i64) (.cons (.int .i64) (.cons (.int .i64) (.cons (.int .i64) (.cons (.int .i64) (.cons (.int .i64) Z18))))))), (.ow (.cons (.int .i64) (.cons (.int .i64) (.cons (.int .i64) (.cons (.int .i64) Z18))))), (.ow (.cons (.sl (.cons (.int .i64) (.cons (.int .i64) Z18))) (.cons (.int .i64) Z12))), (.ow (.one (.int .i64)))])), (.box Z6), (.box Z6), (.box (shps [.junk, (.sl (.cons (.int .i64) (.cons (.int .i64) (.cons (.int .i64) (.cons (.int .i64) (.cons .bool (.cons .bool (.cons (.int .i64) (.cons (.int .i64) Z18))))))))), (.sl (.cons (.int .i64) (.cons .bool Z25))), (.sl (.cons (.int .i64) Z11))])), (.box Z6), (.box Z6), (.box (shps [(.ow Z21), (.sl (.cons (.int .i64) (.cons (.int .i64) (.cons (.int .i64) (.cons (.int .i64) (.cons .bool (.cons .bool (.cons (.int .i64) (.cons (.int .i64) Z18))))))))), (.sl (.cons (.int .i64) (.cons .bool Z25))), (.sl (.cons (.int .i64) Z11)), (.ow (.cons (.int .i64) (.cons (.int .i64) (.cons (.int .i64) (.cons (.int .i64) (.cons (.int .i64) (.cons (.int .i64) Z18))))))), (.ow (.cons (.int .i64) (.cons (.int .i64) (.cons (.int .i64) (.cons (.int .i64) Z18))))), (.ow (.cons (.sl (.cons (.int .i64) (.cons (.int .i64) Z18))) (.cons (.int .i64) Z12))), (.ow (.one (.int .i64)))])), (.int .i64), (.int .i64)])
def gaw_2042w : List Way := [.exit 4 (shps [(.box Z10), (.box (shps [(.ow Z21), (.ow (.cons (.int .i64) (.cons (.int .i64) (.cons (.int .i64) (.cons (.int .i64) (.cons .bool (.cons .bool (.cons (.int .i64) (.cons (.int .i64) Z18))))))))), (.ow (.cons (.int .i64) (.cons .bool Z25))), (.ow (.cons (.int .i64) Z11)), (.ow (.cons (.int .i64) (.cons (.int .i64) (.cons (.int .i64) (.cons (.int .i64) (.cons (.int .i64) (.cons (.int .i64) Z18))))))), (.ow (.cons (.int .i64) (.cons (.int .i64) (.cons (.int .i64) (.cons (.int .i64) Z18))))), (.ow (.cons (.sl (.cons (.int .i64) (.cons (.int .i64) Z18))) (.cons (.int .i64) Z12))), (.ow (.one (.int .i64)))])), (.box Z6), (.box Z6), (.box Z6), (.box Z6), (.box (shps [(.ow Z21), (.sl (.cons (.int .i64) (.cons (.int .i64) (.cons (.int .i64) (.cons (.int .i64) (.cons .bool (.cons .bool (.cons (.int .i64) (.cons (.int .i64) Z18))))))))), (.sl (.cons (.int .i64) (.cons .bool Z25))), (.sl (.cons (.int .i64) Z11)), (.ow (.cons (.int .i64) (.cons (.int .i64) (.cons (.int .i64) (.cons (.int .i64) (.cons (.int .i64) (.cons (.int .i64) Z18))))))), (.ow (.cons (.int .i64) (.cons (.int .i64) (.cons (.int .i64) (.cons (.int .i64) Z18))))), (.ow (.cons (.sl (.cons (.int .i64) (.cons (.int .i64) Z18))) (.cons (.int .i64) Z12))), (.ow (.one (.int .i64)))])), (.int .i64)]) [0, 2, 3, 4, 6, 7, 8, 9]]
def gawk3 : List (Nat × Cut) := (2042, loopOf gaw_2042s [0, 2, 3, 4, 5, 6, 7, 8, 9, 13] gaw_2042w gaw_2042F) :: gawk2
theorem gawc3 : CutsOk tP gawC gawB gawk3 :=
 CutsOk.loop tM rfl gawL gawc2 2042 gaw_2042s [0, 2, 3, 4, 5, 6, 7, 8, 9, 13] gaw_2042w gaw_2042F (by kernel_rfl) (by kernel_rfl) fun x => by kernel_rfl
def gaw_4090s : Shps := (shps [(.box Z10), (.box (shps [(.ow Z21), (.ow (.cons (.int .i64) (.cons (.int .i64) (.cons (.int .i64) (.cons (.int .i64) (.cons .bool (.cons .bool (.cons (.int .i64) (.cons (.int .i64) Z18))))))))), (.ow (.cons (.int .i64) (.cons .bool Z25))), (.ow (.cons (.int .i64) Z11)), (.ow (.cons (.int .i64) (.cons (.int .i64) (.cons (.int .i64) (.cons (.int .i64) (.cons (.int .i64) (.cons (.int .i64) Z18))))))), (.ow (.cons (.int .i64) (.cons (.int .i64) (.cons (.int .i64) (.cons (.int .i64) Z18))))), (.ow (.cons (.sl (.cons (.int .i64) (.cons (.int .i64) Z18))) (.cons (.int .i64) Z12))), (.ow (.one (.int .i64)))])), (.box Z6), (.box Z6), (.box Z6), (.box Z6), (.box (shps [(.ow Z21), (.sl (.cons (.int .i64) (.cons (.int .i64) (.cons (.int .i64) (.cons (.int .i64) (.cons .bool (.cons .bool (.cons (.int .i64) (.cons (.int .i64) Z18))))))))), (.sl (.cons (.int .i64) (.cons .bool Z25))), (.sl (.cons (.int .i64) Z11)), (.ow (.cons (.int .i64) (.cons (.int .i64) (.cons (.int .i64) (.cons (.int .i64) (.cons (.int .i64) (.cons (.int .i64) Z18))))))), (.ow (.cons (.int .i64) (.cons (.int .i64) (.cons (.int .i64) (.cons (.int .i64) Z18))))), (.ow (.cons (.sl (.cons (.int .i64) (.cons (.int .i64) Z18))) (.cons (.int .i64) Z12))), (.ow (.one (.int .i64)))])), (.int .i64), (.int .i64)])
def gaw_4090w : List Way := [.exit 6 (shps [(.box Z10), (.box (shps [(.ow Z21), (.ow (.cons (.int .i64) (.cons (.int .i64) (.cons (.int .i64) (.cons (.int .i64) (.cons .bool (.cons .bool (.cons (.int .i64) (.cons (.int .i64) Z18))))))))), (.ow (.cons (.int .i64) (.cons .bool Z25))), (.ow (.cons (.int .i64) Z11)), (.ow (.cons (.int .i64) (.cons (.int .i64) (.cons (.int .i64) (.cons (.int .i64) (.cons (.int .i64) (.cons (.int .i64) Z18))))))), (.ow (.cons (.int .i64) (.cons (.int .i64) (.cons (.int .i64) (.cons (.int .i64) Z18))))), (.ow (.cons (.sl (.cons (.int .i64) (.cons (.int .i64) Z18))) (.cons (.int .i64) Z12))), (.ow (.one (.int .i64)))])), (.box Z6), (.box Z6), (.box Z6), (.box Z6), (.box (shps [(.ow Z21), (.sl (.cons (.int .i64) (.cons (.int .i64) (.cons (.int .i64) (.cons (.int .i64) (.cons .bool (.cons .bool (.cons (.int .i64) (.cons (.int .i64) Z18))))))))), (.sl (.cons (.int .i64) (.cons .bool Z25))), (.sl (.cons (.int .i64) Z11)), (.ow (.cons (.int .i64) (.cons (.int .i64) (.cons (.int .i64) (.cons (.int .i64) (.cons (.int .i64) (.cons (.int .i64) Z18))))))), (.ow (.cons (.int .i64) (.cons (.int .i64) (.cons (.int .i64) (.cons (.int .i64) Z18))))), (.ow (.cons (.sl (.cons (.int .i64) (.cons (.int .i64) Z18))) (.cons (.int .i64) Z12))), (.ow (.one (.int .i64)))])), (.int .i64)]) [0, 2, 3, 4, 6, 7, 8, 9]]
def gawk4 : List (Nat × Cut) := (4090, loopOf gaw_4090s [0, 2, 3, 4, 6, 7, 8, 9, 14] gaw_4090w gaw_4090F) :: gawk3
theorem gawc4 : CutsOk tP gawC gawB gawk4 :=
 CutsOk.loop tM rfl gawL gawc3 4090 gaw_4090s [0, 2, 3, 4, 6, 7, 8, 9, 14] gaw_4090w gaw_4090F (by kernel_rfl) (by kernel_rfl) fun x => by kernel_rfl
def gaw_2095690s : Shps := (shps [(.box Z10), (.box (shps [(.ow Z21), (.ow (.cons (.int .i64) (.cons (.int .i64) (.cons (.int .i64) (.cons (.int .i64) (.cons .bool (.cons .bool (.cons (.int .i64) (.cons (.int .i64) Z18))))))))), (.ow (.cons (.int .i64) (.cons .bool Z25))), (.ow (.cons (.int .i64) Z11)), (.ow (.cons (.int .i64) (.cons (.int .i64) (.cons (.int .i64) (.cons (.int .i64) (.cons (.int .i64) (.cons (.int .i64) Z18))))))), (.ow (.cons (.int .i64) (.cons (.int .i64) (.cons (.int .i64) (.cons (.int .i64) Z18))))), (.ow (.cons (.sl (.cons (.int .i64) (.cons (.int .i64) Z18))) (.cons (.int .i64) Z12))), (.ow (.one (.int .i64)))])), (.box Z6), (.box Z6), (.box Z6), (.box Z6), (.box (shps [(.ow Z21), (.sl (.cons (.int .i64) (.cons (.int .i64) (.cons (.int .i64) (.cons (.int .i64) (.cons .bool (.cons .bool (.cons (.int .i64) (.cons (.int .i64) Z18))))))))), (.sl (.cons (.int .i64) (.cons .bool Z25))), (.sl (.cons (.int .i64) Z11)), (.ow (.cons (.int .i64) (.cons (.int .i64) (.cons (.int .i64) (.cons (.int .i64) (.cons (.int .i64) (.cons (.int .i64) Z18))))))), (.ow (.cons (.int .i64) (.cons (.int .i64) (.cons (.int .i64) (.cons (.int .i64) Z18))))), (.ow (.cons (.sl (.cons (.int .i64) (.cons (.int .i64) Z18))) (.cons (.int .i64) Z12))), (.ow (.one (.int .i64)))])), (.int .i64), (.int .i64), (.box (shps [(.ow (.cons (.int .i64) (.cons (.int .i64) Z18))), (.int .i64), (.ow (.one (.int .i64))), (.int .i64)])), (.int .i64)])
def gaw_2095690w : List Way := [.exit 10 (shps [(.box Z10), (.box (shps [(.ow Z21), (.ow (.cons (.int .i64) (.cons (.int .i64) (.cons (.int .i64) (.cons (.int .i64) (.cons .bool (.cons .bool (.cons (.int .i64) (.cons (.int .i64) Z18))))))))), (.ow (.cons (.int .i64) (.cons .bool Z25))), (.ow (.cons (.int .i64) Z11)), (.ow (.cons (.int .i64) (.cons (.int .i64) (.cons (.int .i64) (.cons (.int .i64) (.cons (.int .i64) (.cons (.int .i64) Z18))))))), (.ow (.cons (.int .i64) (.cons (.int .i64) (.cons (.int .i64) (.cons (.int .i64) Z18))))), (.ow (.cons (.sl (.cons (.int .i64) (.cons (.int .i64) Z18))) (.cons (.int .i64) Z12))), (.ow (.one (.int .i64)))])), (.box Z6), (.box Z6), (.box Z6), (.box Z6), (.box (shps [(.ow Z21), (.sl (.cons (.int .i64) (.cons (.int .i64) (.cons (.int .i64) (.cons (.int .i64) (.cons .bool (.cons .bool (.cons (.int .i64) (.cons (.int .i64) Z18))))))))), (.sl (.cons (.int .i64) (.cons .bool Z25))), (.sl (.cons (.int .i64) Z11)), (.ow (.cons (.int .i64) (.cons (.int .i64) (.cons (.int .i64) (.cons (.int .i64) (.cons (.int .i64) (.cons (.int .i64) Z18))))))), (.ow (.cons (.int .i64) (.cons (.int .i64) (.cons (.int .i64) (.cons (.int .i64) Z18))))), (.ow (.cons (.sl (.cons (.int .i64) (.cons (.int .i64) Z18))) (.cons (.int .i64) Z12))), (.ow (.one (.int .i64)))])), (.int .i64), (.int .i64), (.box (shps [(.ow (.cons (.int .i64) (.cons (.int .i64) Z18))), (.int .i64), (.ow (.one (.int .i64))), (.int .i64)]))]) [0, 2, 3, 4, 6, 7, 8, 9, 15, 16]]
def gawk5 : List (Nat × Cut) := (2095690, loopOf gaw_2095690s [0, 2, 3, 4, 6, 7, 8, 9, 15, 16, 17] gaw_2095690w gaw_2095690F) :: gawk4
theorem gawc5 : CutsOk tP gawC gawB gawk5 :=
 CutsOk.loop tM rfl gawL gawc4 2095690 gaw_2095690s [0, 2, 3, 4, 6, 7, 8, 9, 15, 16, 17] gaw_2095690w gaw_2095690F (by kernel_rfl) (by kernel_rfl) fun x => by kernel_rfl
def gaw_8186s : Shps := (shps [(.box Z10), (.box (shps [(.ow Z21), (.ow (.cons (.int .i64) (.cons (.int .i64) (.cons (.int .i64) (.cons (.int .i64) (.cons .bool (.cons .bool (.cons (.int .i64) (.cons (.int .i64) Z18))))))))), (.ow (.cons (.int .i64) (.cons .bool Z25))), (.ow (.cons (.int .i64) Z11)), (.ow (.cons (.int .i64) (.cons (.int .i64) (.cons (.int .i64) (.cons (.int .i64) (.cons (.int .i64) (.cons (.int .i64) Z18))))))), (.ow (.cons (.int .i64) (.cons (.int .i64) (.cons (.int .i64) (.cons (.int .i64) Z18))))), (.ow (.cons (.sl (.cons (.int .i64) (.cons (.int .i64) Z18))) (.cons (.int .i64) Z12))), (.ow (.one (.int .i64)))])), (.box Z6), (.box Z6), (.box Z6), (.box Z6), (.box (shps [(.ow Z21), (.sl (.cons (.int .i64) (.cons (.int .i64) (.cons (.int .i64) (.cons (.int .i64) (.cons .bool (.cons .bool (.cons (.int .i64) (.cons (.int .i64) Z18))))))))), (.sl (.cons (.int .i64) (.cons .bool Z25))), (.sl (.cons (.int .i64) Z11)), (.ow (.cons (.int .i64) (.cons (.int .i64) (.cons (.int .i64) (.cons (.int .i64) (.cons (.int .i64) (.cons (.int .i64) Z18))))))), (.ow (.cons (.int .i64) (.cons (.int .i64) (.cons (.int .i64) (.cons (.int .i64) Z18))))), (.ow (.cons (.sl (.cons (.int .i64) (.cons (.int .i64) Z18))) (.cons (.int .i64) Z12))), (.ow (.one (.int .i64)))])), (.int .i64), (.int .i64)])
def gaw_8186w : List Way := [.exit 8 (shps [(.box Z10), (.box (shps [(.ow Z21), (.ow (.cons (.int .i64) (.cons (.int .i64) (.cons (.int .i64) (.cons (.int .i64) (.cons .bool (.cons .bool (.cons (.int .i64) (.cons (.int .i64) Z18))))))))), (.ow (.cons (.int .i64) (.cons .bool Z25))), (.ow (.cons (.int .i64) Z11)), (.ow (.cons (.int .i64) (.cons (.int .i64) (.cons (.int .i64) (.cons (.int .i64) (.cons (.int .i64) (.cons (.int .i64) Z18))))))), (.ow (.cons (.int .i64) (.cons (.int .i64) (.cons (.int .i64) (.cons (.int .i64) Z18))))), (.ow (.cons (.sl (.cons (.int .i64) (.cons (.int .i64) Z18))) (.cons (.int .i64) Z12))), (.ow (.one (.int .i64)))])), (.box Z6), (.box Z6), (.box Z6), (.box Z6), (.box (shps [(.ow Z21), (.sl (.cons (.int .i64) (.cons (.int .i64) (.cons (.int .i64) (.cons (.int .i64) (.cons .bool (.cons .bool (.cons (.int .i64) (.cons (.int .i64) Z18))))))))), (.sl (.cons (.int .i64) (.cons .bool Z25))), (.sl (.cons (.int .i64) Z11)), (.ow (.cons (.int .i64) (.cons (.int .i64) (.cons (.int .i64) (.cons (.int .i64) (.cons (.int .i64) (.cons (.int .i64) Z18))))))), (.ow (.cons (.int .i64) (.cons (.int .i64) (.cons (.int .i64) (.cons (.int .i64) Z18))))), (.ow (.cons (.sl (.cons (.int .i64) (.cons (.int .i64) Z18))) (.cons (.int .i64) Z12))), (.ow (.one (.int .i64)))]))]) [0, 2, 3, 4, 6, 7, 8]]
def gawk6 : List (Nat × Cut) := (8186, loopOf gaw_8186s [0, 2, 3, 4, 6, 7, 8, 9, 15] gaw_8186w gaw_8186F) :: gawk5
theorem gawc6 : CutsOk tP gawC gawB gawk6 :=
 CutsOk.loop tM rfl gawL gawc5 8186 gaw_8186s [0, 2, 3, 4, 6, 7, 8, 9, 15] gaw_8186w gaw_8186F (by kernel_rfl) (by kernel_rfl) fun x => by kernel_rfl
def gaw_31s : Shps := (shps [(.box Z10), (.box (shps [(.ow Z21), (.ow (.cons (.int .i64) (.cons (.int .i64) (.cons (.int .i64) (.cons (.int .i64) (.cons .bool (.cons .bool (.cons (.int .i64) (.cons (.int .i64) Z18))))))))), (.ow (.cons (.int .i64) (.cons .bool Z25))), (.ow (.cons (.int .i64) Z11)), (.ow (.cons (.int .i64) (.cons (.int .i64) (.cons (.int .i64) (.cons (.int .i64) (.cons (.int .i64) (.cons (.int .i64) Z18))))))), (.ow (.cons (.int .i64) (.cons (.int .i64) (.cons (.int .i64) (.cons (.int .i64) Z18))))), (.ow (.cons (.sl (.cons (.int .i64) (.cons (.int .i64) Z18))) (.cons (.int .i64) Z12))), (.ow (.one (.int .i64)))])), (.box Z6), (.box Z6), (.box (shps [.junk, (.sl (.cons (.int .i64) (.cons (.int .i64) (.cons (.int .i64) (.cons (.int .i64) (.cons .bool (.cons .bool (.cons (.int .i64) (.cons (.int .i64) Z18))))))))), (.sl (.cons (.int .i64) (.cons .bool Z25))), (.sl (.cons (.int .i64) Z11))])), (.box Z6), (.box Z6), (.box (shps [(.ow Z21), (.sl (.cons (.int .i64) (.cons (.int .i64) (.cons (.int .i64) (.cons (.int .i64) (.cons .bool (.cons .bool (.cons (.int .i64) (.cons (.int .i64) Z18))))))))), (.sl (.cons (.int .i64) (.cons .bool Z25))), (.sl (.cons (.int .i64) Z11)), (.ow (.cons (.int .i64) (.cons (.int .i64) (.cons (.int .i64) (.cons (.int .i64) (.cons (.int .i64) (.cons (.int .i64) Z18))))))), (.ow (.cons (.int .i64) (.cons (.int .i64) (.cons (.int .i64) (.cons (.int .i64) Z18))))), (.ow (.cons (.sl (.cons (.int .i64) (.cons (.int .i64) Z18))) (.cons (.int .i64) Z12))), (.ow (.one (.int .i64)))]))])
def gaw_31w : List Way := [.ret (shps [(.box Z10), (.box (shps [(.ow Z21), (.sl (.cons (.int .i64) (.cons (.int .i64) (.cons (.int .i64) (.cons (.int .i64) (.cons .bool (.cons .bool (.cons (.int .i64) (.cons (.int .i64) Z18))))))))), (.sl (.cons (.int .i64) (.cons .bool Z25))), (.sl (.cons (.int .i64) Z11)), (.ow (.cons (.int .i64) (.cons (.int .i64) (.cons (.int .i64) (.cons (.int .i64) (.cons (.int .i64) (.cons (.int .i64) Z18))))))), (.ow (.cons (.int .i64) (.cons (.int .i64) (.cons (.int .i64) (.cons (.int .i64) Z18))))), (.ow (.cons (.sl (.cons (.int .i64) (.cons (.int .i64) Z18))) (.cons (.int .i64) Z12))), (.ow (.one (.int .i64)))])), (.box Z6), (.box Z6)]) [0, 2, 3, 4]]
def gawk7 : List (Nat × Cut) := (31, cutOf gaw_31s [0, 2, 3, 4, 5, 6, 7, 8] gaw_31w fun x => gaw_31 x.1.1 x.1.2.1 x.2.1.1 x.2.1.2.1 x.2.1.2.2.1 x.2.1.2.2.2.1 x.2.1.2.2.2.2.1 x.2.1.2.2.2.2.2.1 x.2.1.2.2.2.2.2.2.1 x.2.1.2.2.2.2.2.2.2.1 x.2.2.1.1 x.2.2.1.2.1 x.2.2.2.1.1 x.2.2.2.1.2.1 x.2.2.2.2.1.2.1 x.2.2.2.2.1.2.2.1 x.2.2.2.2.1.2.2.2.1 x.2.2.2.2.2.1.1 x.2.2.2.2.2.1.2.1 x.2.2.2.2.2.2.1.1 x.2.2.2.2.2.2.1.2.1 x.2.2.2.2.2.2.2.1.1 x.2.2.2.2.2.2.2.1.2.1 x.2.2.2.2.2.2.2.1.2.2.1 x.2.2.2.2.2.2.2.1.2.2.2.1 x.2.2.2.2.2.2.2.1.2.2.2.2.1 x.2.2.2.2.2.2.2.1.2.2.2.2.2.1 x.2.2.2.2.2.2.2.1.2.2.2.2.2.2.1 x.2.2.2.2.2.2.2.1.2.2.2.2.2.2.2.1) :: gawk6
theorem gawc7 : CutsOk tP gawC gawB gawk7 :=
 CutsOk.cut tM rfl gawL gawc6 31 gaw_31s [0, 2, 3, 4, 5, 6, 7, 8] gaw_31w (fun x => gaw_31 x.1.1 x.1.2.1 x.2.1.1 x.2.1.2.1 x.2.1.2.2.1 x.2.1.2.2.2.1 x.2.1.2.2.2.2.1 x.2.1.2.2.2.2.2.1 x.2.1.2.2.2.2.2.2.1 x.2.1.2.2.2.2.2.2.2.1 x.2.2.1.1 x.2.2.1.2.1 x.2.2.2.1.1 x.2.2.2.1.2.1 x.2.2.2.2.1.2.1 x.2.2.2.2.1.2.2.1 x.2.2.2.2.1.2.2.2.1 x.2.2.2.2.2.1.1 x.2.2.2.2.2.1.2.1 x.2.2.2.2.2.2.1.1 x.2.2.2.2.2.2.1.2.1 x.2.2.2.2.2.2.2.1.1 x.2.2.2.2.2.2.2.1.2.1 x.2.2.2.2.2.2.2.1.2.2.1 x.2.2.2.2.2.2.2.1.2.2.2.1 x.2.2.2.2.2.2.2.1.2.2.2.2.1 x.2.2.2.2.2.2.2.1.2.2.2.2.2.1 x.2.2.2.2.2.2.2.1.2.2.2.2.2.2.1 x.2.2.2.2.2.2.2.1.2.2.2.2.2.2.2.1) (by kernel_rfl) fun x => by kernel_rfl
def gawE : Entry := ⟨12, gawa, (.tup (shps [(.agg (shps [(.ow Z21), (.sl (.cons (.int .i64) (.cons (.int .i64) (.cons (.int .i64) (.cons (.int .i64) (.cons .bool (.cons .bool (.cons (.int .i64) (.cons (.int .i64) Z18))))))))), (.sl (.cons (.int .i64) (.cons .bool Z25))), (.sl (.cons (.int .i64) Z11)), (.ow (.cons (.int .i64) (.cons (.int .i64) (.cons (.int .i64) (.cons (.int .i64) (.cons (.int .i64) (.cons (.int .i64) Z18))))))), (.ow (.cons (.int .i64) (.cons (.int .i64) (.cons (.int .i64) (.cons (.int .i64) Z18))))), (.ow (.cons (.sl (.cons (.int .i64) (.cons (.int .i64) Z18))) (.cons (.int .i64) Z12))), (.ow (.one (.int .i64)))])), (.agg Z6), (.agg Z6)])), gawo, fun x => gaw x.1.1 x.1.2.1⟩
theorem gawK : EntryOk tP gawE :=
 entry_ok tM rfl gawL (fn := Go.Proofs.Try.f12) Go.Proofs.Try.func12 (by kernel_rfl) (root := gawB) (by kernel_rfl) gawc7 [] gawa (.tup (shps [(.agg (shps [(.ow Z21), (.sl (.cons (.int .i64) (.cons (.int .i64) (.cons (.int .i64) (.cons (.int .i64) (.cons .bool (.cons .bool (.cons (.int .i64) (.cons (.int .i64) Z18))))))))), (.sl (.cons (.int .i64) (.cons .bool Z25))), (.sl (.cons (.int .i64) Z11)), (.ow (.cons (.int .i64) (.cons (.int .i64) (.cons (.int .i64) (.cons (.int .i64) (.cons (.int .i64) (.cons (.int .i64) Z18))))))), (.ow (.cons (.int .i64) (.cons (.int .i64) (.cons (.int .i64) (.cons (.int .i64) Z18))))), (.ow (.cons (.sl (.cons (.int .i64) (.cons (.int .i64) Z18))) (.cons (.int .i64) Z12))), (.ow (.one (.int .i64)))])), (.agg Z6), (.agg Z6)])) gawo (fun x => gaw x.1.1 x.1.2.1) (fun x => by kernel_rfl) fun x => by kernel_rfl
def gaxC : Ctx := ⟨tP, 15, 0, [(1, [7, 8, 9, 10, 11, 12, 13, 14])], [], []⟩
def gaxB : Code := (Go.Proofs.Try.f88.body).getD .skip
def gaxa : Shps := Z13
def gaxo : Shps := (shps [])
def gaxO : List Entry := []
theorem gaxL : ∀ e ∈ gaxO, EntryOk tP e := by
 intro e he; cases he
def gaxk0 : List (Nat × Cut) := []
theorem gaxc0 : CutsOk tP gaxC gaxB gaxk0 := CutsOk.nil
def gaxE : Entry := ⟨88, gaxa, .bool, gaxo, fun x => gax x.1 x.2.1 x.2.2.1⟩
theorem gaxK : EntryOk tP gaxE :=
 entry_ok tM rfl gaxL (fn := Go.Proofs.Try.f88) Go.Proofs.Try.func88 (by kernel_rfl) (root := gaxB) (by kernel_rfl) gaxc0 [] gaxa .bool gaxo (fun x => gax x.1 x.2.1 x.2.2.1) (fun x => by kernel_rfl) fun x => by kernel_rfl
def gayC : Ctx := ⟨tP, 46, 0, [(1, [3, 4, 5]), (3, [7, 8, 9, 10, 11, 12, 13, 14, 15, 16, 17, 18, 19, 20, 21, 22, 23, 24, 25, 26, 27, 28, 29, 30, 31, 32, 33, 34, 35, 36, 37, 38, 39, 40, 41, 42, 43, 44])], [], []⟩
def gayB : Code := (Go.Proofs.Try.f85.body).getD .skip
def gaya : Shps := (shps [(.agg Z2)])
def gayo : Shps := (shps [])
def gayO : List Entry := [gaxE]
theorem gayL : ∀ e ∈ gayO, EntryOk tP e := by
 intro e he
 simp only [gayO, List.mem_cons, List.not_mem_nil, or_false] at he
 rcases he with rfl
 ·exact gaxK
def gayk0 : List (Nat × Cut) := []
theorem gayc0 : CutsOk tP gayC gayB gayk0 := CutsOk.nil
def gayE : Entry := ⟨85, gaya, (.int .i64), gayo, fun x => gay x.1.1 x.1.2.1 x.1.2.2.1 x.1.2.2.2.1 x.1.2.2.2.2.1 x.1.2.2.2.2.2.1 x.1.2.2.2.2.2.2.1 x.1.2.2.2.2.2.2.2.1⟩
theorem gayK : EntryOk tP gayE :=
 entry_ok tM rfl gayL (fn := Go.Proofs.Try.f85) Go.Proofs.Try.func85 (by kernel_rfl) (root := gayB) (by kernel_rfl) gayc0 [] gaya (.int .i64) gayo (fun x => gay x.1.1 x.1.2.1 x.1.2.2.1 x.1.2.2.2.1 x.1.2.2.2.2.1 x.1.2.2.2.2.2.1 x.1.2.2.2.2.2.2.1 x.1.2.2.2.2.2.2.2.1) (fun x => by kernel_rfl) fun x => by kernel_rfl
def gazC : Ctx := ⟨tP, 2, 0, [(1, [1])], [], []⟩
def gazB : Code := (Go.Proofs.Try.f34.body).getD .skip
def gaza : Shps := (shps [])
def gazo : Shps := (shps [])
def gazO : List Entry := []
theorem gazL : ∀ e ∈ gazO, EntryOk tP e := by
 intro e he; cases he
def gazk0 : List (Nat × Cut) := []
theorem gazc0 : CutsOk tP gazC gazB gazk0 := CutsOk.nil
def gazE : Entry := ⟨34, gaza, (.agg Z19), gazo, fun x => gaz⟩
theorem gazK : EntryOk tP gazE :=
 entry_ok tM rfl gazL (fn := Go.Proofs.Try.f34) Go.Proofs.Try.func34 (by kernel_rfl) (root := gazB) (by kernel_rfl) gazc0 [] gaza (.agg Z19) gazo (fun x => gaz) (fun x => by kernel_rfl) fun x => by kernel_rfl
def gbaC : Ctx := ⟨tP, 9, 0, [(1, [3, 4, 5, 6, 7, 8])], [], []⟩
def gbaB : Code := (Go.Proofs.Try.f91.body).getD .skip
def gbaa : Shps := (shps [(.int .i64)])
def gbao : Shps := (shps [])
def gbaO : List Entry := []
theorem gbaL : ∀ e ∈ gbaO, EntryOk tP e := by
 intro e he; cases he
def gbak0 : List (Nat × Cut) := []
theorem gbac0 : CutsOk tP gbaC gbaB gbak0 := CutsOk.nil
def gbaE : Entry := ⟨91, gbaa, .bool, gbao, fun x => gba x.1⟩
theorem gbaK : EntryOk tP gbaE :=
 entry_ok tM rfl gbaL (fn := Go.Proofs.Try.f91) Go.Proofs.Try.func91 (by kernel_rfl) (root := gbaB) (by kernel_rfl) gbac0 [] gbaa .bool gbao (fun x => gba x.1) (fun x => by kernel_rfl) fun x => by kernel_rfl
def gbbC : Ctx := ⟨tP, 67, 0, [(1, [7, 8, 9, 10, 11, 12, 13]), (2, [15]), (3, [16, 17]), (5, [19, 20]), (7, [22, 23]), (9, [25, 26]), (10, [28]), (11, [29, 30, 31]), (12, [32, 33, 34, 35, 36, 37, 38, 39, 40, 41, 42, 43, 44, 45, 46, 47, 48, 49, 50, 51, 52, 53, 54]), (13, [55, 56]), (14, [58, 59, 60, 61, 62, 63, 64, 65]), (15, [66])], [], []⟩
def gbbB : Code := (Go.Proofs.Try.f52.body).getD .skip
def gbba : Shps := (shps [(.agg Z2), (.int .i64)])
def gbbo : Shps := (shps [])
def gbbO : List Entry := [gayE, gaxE, gazE, garE, gajE, gakE, gbaE]
theorem gbbL : ∀ e ∈ gbbO, EntryOk tP e := by
 intro e he
 simp only [gbbO, List.mem_cons, List.not_mem_nil, or_false] at he
 rcases he with rfl | rfl | rfl | rfl | rfl | rfl | rfl
 ·exact gayK
 ·exact gaxK
 ·exact gazK
 ·exact garK
 ·exact gajK
 ·exact gakK
 ·exact gbaK
def gbbk0 : List (Nat × Cut) := []
theorem gbbc0 : CutsOk tP gbbC gbbB gbbk0 := CutsOk.nil
def gbb_471s : Shps := (shps [(.int .i64), (.box Z19), (.int .i64)])
def gbb_471w : List Way := [.ret (shps [(.box Z19)]) [4]]
def gbbk1 : List (Nat × Cut) := (471, cutOf gbb_471s [1, 4, 5] gbb_471w fun x => gbb_471 x.1 x.2.1.1 x.2.1.2.1 x.2.2.1) :: gbbk0
theorem gbbc1 : CutsOk tP gbbC gbbB gbbk1 :=
 CutsOk.cut tM rfl gbbL gbbc0 471 gbb_471s [1, 4, 5] gbb_471w (fun x => gbb_471 x.1 x.2.1.1 x.2.1.2.1 x.2.2.1) (by kernel_rfl) fun x => by kernel_rfl
def gbb_235s : Shps := (shps [(.int .i64), (.box Z2), (.box Z19), (.int .i64)])
def gbb_235w : List Way := [.ret (shps [(.box Z19)]) [4]]
def gbbk2 : List (Nat × Cut) := (235, cutOf gbb_235s [1, 2, 4, 5] gbb_235w fun x => gbb_235 x.1 x.2.1.1 x.2.1.2.1 x.2.1.2.2.1 x.2.1.2.2.2.1 x.2.1.2.2.2.2.1 x.2.1.2.2.2.2.2.1 x.2.1.2.2.2.2.2.2.1 x.2.1.2.2.2.2.2.2.2.1 x.2.2.1.1 x.2.2.1.2.1 x.2.2.2.1) :: gbbk1
theorem gbbc2 : CutsOk tP gbbC gbbB gbbk2 :=
 CutsOk.cut tM rfl gbbL gbbc1 235 gbb_235s [1, 2, 4, 5] gbb_235w (fun x => gbb_235 x.1 x.2.1.1 x.2.1.2.1 x.2.1.2.2.1 x.2.1.2.2.2.1 x.2.1.2.2.2.2.1 x.2.1.2.2.2.2.2.1 x.2.1.2.2.2.2.2.2.1 x.2.1.2.2.2.2.2.2.2.1 x.2.2.1.1 x.2.2.1.2.1 x.2.2.2.1) (by kernel_rfl) fun x => by kernel_rfl
def gbbE : Entry := ⟨52, gbba, (.agg Z19), gbbo, fun x => gbb x.1.1 x.1.2.1 x.1.2.2.1 x.1.2.2.2.1 x.1.2.2.2.2.1 x.1.2.2.2.2.2.1 x.1.2.2.2.2.2.2.1 x.1.2.2.2.2.2.2.2.1 x.2.1⟩
theorem gbbK : EntryOk tP gbbE :=
 entry_ok tM rfl gbbL (fn := Go.Proofs.Try.f52) Go.Proofs.Try.func52 (by kernel_rfl) (root := gbbB) (by kernel_rfl) gbbc2 [] gbba (.agg Z19) gbbo (fun x => gbb x.1.1 x.1.2.1 x.1.2.2.1 x.1.2.2.2.1 x.1.2.2.2.2.1 x.1.2.2.2.2.2.1 x.1.2.2.2.2.2.2.1 x.1.2.2.2.2.2.2.2.1 x.2.1) (fun x => by kernel_rfl) fun x => by kernel_rfl
def gbcC : Ctx := ⟨tP, 42, 1, [(2, [9]), (4, [14, 15, 16]), (5, [17, 18, 19, 20, 21, 22, 23, 24]), (6, [25, 26]), (7, [28, 29, 30, 31, 32]), (8, [33]), (9, [35]), (10, [36, 37, 38, 39]), (11, [40]), (12, [41])], [], []⟩
def gbcB : Code := (Go.Proofs.Try.f16.body).getD .skip
def gbca : Shps := (shps [(.box Z10), (.agg (shps [(.sl Z21), (.sl (.cons (.int .i64) (.cons (.int .i64) (.cons (.int .i64) (.cons (.int .i64) (.cons .bool (.cons .bool (.cons (.int .i64) (.cons (.int .i64) Z18))))))))), (.sl (.cons (.int .i64) (.cons .bool Z25))), (.sl (.cons (.int .i64) Z11)), (.sl (.cons (.int .i64) (.cons (.int .i64) (.cons (.int .i64) (.cons (.int .i64) (.cons (.int .i64) (.cons (.int .i64) Z18))))))), (.sl (.cons (.int .i64) (.cons (.int .i64) (.cons (.int .i64) (.cons (.int .i64) Z18))))), (.sl (.cons (.sl (.cons (.int .i64) (.cons (.int .i64) Z18))) (.cons (.int .i64) Z12))), (.sl (.one (.int .i64)))]))])
def gbco : Shps := (shps [(.box Z10)])
def gbcO : List Entry := [gabE, gbbE, garE, gacE]
theorem gbcL : ∀ e ∈ gbcO, EntryOk tP e := by
 intro e he
 simp only [gbcO, List.mem_cons, List.not_mem_nil, or_false] at he
 rcases he with rfl | rfl | rfl | rfl
 ·exact gabK
 ·exact gbbK
 ·exact garK
 ·exact gacK
def gbck0 : List (Nat × Cut) := []
theorem gbcc0 : CutsOk tP gbcC gbcB gbck0 := CutsOk.nil
def gbc_29903s : Shps := (shps [(.box Z10), (.ow (.cons (.int .i64) (.cons (.int .i64) Z18))), (.box Z9), (.sl (.cons (.int .i64) (.cons (.int .i64) (.cons (.int .i64) (.cons (.int .i64) (.cons (.int .i64) (.cons (.int .i64) Z18))))))), (.int .i64), (.int .i64)])
def gbc_29903w : List Way := [.norm (shps [(.box Z10), (.ow (.cons (.int .i64) (.cons (.int .i64) Z18))), (.sl (.cons (.int .i64) (.cons (.int .i64) (.cons (.int .i64) (.cons (.int .i64) (.cons (.int .i64) (.cons (.int .i64) Z18))))))), (.int .i64), (.int .i64)]) [0, 5, 10, 11, 12]]
def gbck1 : List (Nat × Cut) := (29903, cutOf gbc_29903s [0, 5, 8, 10, 11, 12] gbc_29903w fun x => gbc_29903 x.1.1 x.1.2.1 x.2.1 x.2.2.1.1 x.2.2.1.2.1 x.2.2.1.2.2.1 x.2.2.1.2.2.2.1 x.2.2.2.1 x.2.2.2.2.1 x.2.2.2.2.2.1) :: gbck0
theorem gbcc1 : CutsOk tP gbcC gbcB gbck1 :=
 CutsOk.cut tM rfl gbcL gbcc0 29903 gbc_29903s [0, 5, 8, 10, 11, 12] gbc_29903w (fun x => gbc_29903 x.1.1 x.1.2.1 x.2.1 x.2.2.1.1 x.2.2.1.2.1 x.2.2.1.2.2.1 x.2.2.1.2.2.2.1 x.2.2.2.1 x.2.2.2.2.1 x.2.2.2.2.2.1) (by kernel_rfl) fun x => by kernel_rfl
def gbc_14951s : Shps := (shps [(.box Z10), (.ow (.cons (.int .i64) (.cons (.int .i64) Z18))), (.box Z9), (.sl (.cons (.int .i64) (.cons (.int .i64) (.cons (.int .i64) (.cons (.int .i64) (.cons (.int .i64) (.cons (.int .i64) Z18))))))), (.int .i64), (.int .i64)])
def gbc_14951w : List Way := [.norm (shps [(.box Z10), (.ow (.cons (.int .i64) (.cons (.int .i64) Z18))), (.sl (.cons (.int .i64) (.cons (.int .i64) (.cons (.int .i64) (.cons (.int .i64) (.cons (.int .i64) (.cons (.int .i64) Z18))))))), (.int .i64), (.int .i64)]) [0, 5, 10, 11, 12]]
def gbck2 : List (Nat × Cut) := (14951, cutOf gbc_14951s [0, 5, 8, 10, 11, 12] gbc_14951w fun x => gbc_14951 x.1.1 x.1.2.1 x.2.1 x.2.2.1.1 x.2.2.1.2.1 x.2.2.1.2.2.1 x.2.2.1.2.2.2.1 x.2.2.2.1 x.2.2.2.2.1 x.2.2.2.2.2.1) :: gbck1
theorem gbcc2 : CutsOk tP gbcC gbcB gbck2 :=
 CutsOk.cut tM rfl gbcL gbcc1 14951 gbc_14951s [0, 5, 8, 10, 11, 12] gbc_14951w (fun x => gbc_14951 x.1.1 x.1.2.1 x.2.1 x.2.2.1.1 x.2.2.1.2.1 x.2.2.1.2.2.1 x.2.2.1.2.2.2.1 x.2.2.2.1 x.2.2.2.2.1 x.2.2.2.2.2.1) (by kernel_rfl) fun x => by kernel_rfl
def gbc_58s : Shps := (shps [(.box Z10), (.ow (.cons (.int .i64) (.cons (.int .i64) Z18))), (.sl (.cons (.int .i64) (.cons (.int .i64) (.cons (.int .i64) (.cons (.int .i64) (.cons (.int .i64) (.cons (.int .i64) Z18))))))), (.int .i64), (.int .i64)])
def gbc_58w : List Way := [.exit 0 (shps [(.box Z10), (.ow (.cons (.int .i64) (.cons (.int .i64) Z18)))]) [0, 5]]
def gbck3 : List (Nat × Cut) := (58, loopOf gbc_58s [0, 5, 10, 11, 12] gbc_58w gbc_58F) :: gbck2
theorem gbcc3 : CutsOk tP gbcC gbcB gbck3 :=
 CutsOk.loop tM rfl gbcL gbcc2 58 gbc_58s [0, 5, 10, 11, 12] gbc_58w gbc_58F (by kernel_rfl) (by kernel_rfl) fun x => by kernel_rfl
def gbcE : Entry := ⟨16, gbca, (.ow (.cons (.int .i64) (.cons (.int .i64) Z18))), gbco, fun x => gbc x.1.1 x.1.2.1 x.2.1.1 x.2.1.2.1 x.2.1.2.2.1 x.2.1.2.2.2.1 x.2.1.2.2.2.2.1 x.2.1.2.2.2.2.2.1 x.2.1.2.2.2.2.2.2.1 x.2.1.2.2.2.2.2.2.2.1⟩
theorem gbcK : EntryOk tP gbcE :=
 entry_ok tM rfl gbcL (fn := Go.Proofs.Try.f16) Go.Proofs.Try.func16 (by kernel_rfl) (root := gbcB) (by kernel_rfl) gbcc3 [] gbca (.ow (.cons (.int .i64) (.cons (.int .i64) Z18))) gbco (fun x => gbc x.1.1 x.1.2.1 x.2.1.1 x.2.1.2.1 x.2.1.2.2.1 x.2.1.2.2.2.1 x.2.1.2.2.2.2.1 x.2.1.2.2.2.2.2.1 x.2.1.2.2.2.2.2.2.1 x.2.1.2.2.2.2.2.2.2.1) (fun x => by kernel_rfl) fun x => by kernel_rfl
def gbdC : Ctx := ⟨tP, 2, 0, [(1, [1])], [], []⟩
def gbdB : Code := (Go.Proofs.Try.f53.body).getD .skip
def gbda : Shps := (shps [])
def gbdo : Shps := (shps [])
def gbdO : List Entry := []
theorem gbdL : ∀ e ∈ gbdO, EntryOk tP e := by
 intro e he; cases he
def gbdk0 : List (Nat × Cut) := []
theorem gbdc0 : CutsOk tP gbdC gbdB gbdk0 := CutsOk.nil
def gbdE : Entry := ⟨53, gbda, (.agg Z16), gbdo, fun x => gbd⟩
theorem gbdK : EntryOk tP gbdE :=
 entry_ok tM rfl gbdL (fn := Go.Proofs.Try.f53) Go.Proofs.Try.func53 (by kernel_rfl) (root := gbdB) (by kernel_rfl) gbdc0 [] gbda (.agg Z16) gbdo (fun x => gbd) (fun x => by kernel_rfl) fun x => by kernel_rfl
def gbeC : Ctx := ⟨tP, 30, 1, [(2, [7, 8]), (4, [12]), (5, [13]), (6, [16]), (7, [17]), (8, [19]), (9, [20, 21, 22, 23]), (10, [24, 25, 26, 27]), (11, [28]), (12, [29])], [], []⟩
def gbeB : Code := (Go.Proofs.Try.f17.body).getD .skip
def gbea : Shps := (shps [(.box Z10), (.agg (shps [(.sl Z21), (.sl (.cons (.int .i64) (.cons (.int .i64) (.cons (.int .i64) (.cons (.int .i64) (.cons .bool (.cons .bool (.cons (.int .i64) (.cons (.int .i64) Z18))))))))), (.sl (.cons (.int .i64) (.cons .bool Z25))), (.sl (.cons (.int .i64) Z11)), (.sl (.cons (.int .i64) (.cons (.int .i64) (.cons (.int .i64) (.cons (.int .i64) (.cons (.int .i64) (.cons (.int .i64) Z18))))))), (.sl (.cons (.int .i64) (.cons (.int .i64) (.cons (.int .i64) (.cons (.int .i64) Z18))))), (.sl (.cons (.sl (.cons (.int .i64) (.cons (.int .i64) Z18))) (.cons (.int .i64) Z12))), (.sl (.one (.int .i64)))]))])
def gbeo : Shps := (shps [(.box Z10)])
def gbeO : List Entry := [gbdE, gabE]
theorem gbeL : ∀ e ∈ gbeO, EntryOk tP e := by
 intro e he
 simp only [gbeO, List.mem_cons, List.not_mem_nil, or_false] at he
 rcases he with rfl | rfl
 ·exact gbdK
 ·exact gabK
def gbek0 : List (Nat × Cut) := []
theorem gbec0 : CutsOk tP gbeC gbeB gbek0 := CutsOk.nil
def gbe_7475s : Shps := (shps [(.box Z10), (.ow (.cons .bool Z18)), (.box Z16), (.int .i64), (.int .i64)])
def gbe_7475w : List Way := [.norm (shps [(.box Z10), (.ow (.cons .bool Z18)), (.int .i64), (.int .i64)]) [0, 5, 9, 10]]
def gbek1 : List (Nat × Cut) := (7475, cutOf gbe_7475s [0, 5, 6, 9, 10] gbe_7475w fun x => gbe_7475 x.1.1 x.1.2.1 x.2.1 x.2.2.1.1 x.2.2.1.2.1 x.2.2.1.2.2.1 x.2.2.2.1 x.2.2.2.2.1) :: gbek0
theorem gbec1 : CutsOk tP gbeC gbeB gbek1 :=
 CutsOk.cut tM rfl gbeL gbec0 7475 gbe_7475s [0, 5, 6, 9, 10] gbe_7475w (fun x => gbe_7475 x.1.1 x.1.2.1 x.2.1 x.2.2.1.1 x.2.2.1.2.1 x.2.2.1.2.2.1 x.2.2.2.1 x.2.2.2.2.1) (by kernel_rfl) fun x => by kernel_rfl
def gbe_58s : Shps := (shps [(.box Z10), (.ow (.cons .bool Z18)), (.int .i64), (.int .i64)])
def gbe_58w : List Way := [.exit 0 (shps [(.box Z10), (.ow (.cons .bool Z18))]) [0, 5]]
def gbek2 : List (Nat × Cut) := (58, loopOf gbe_58s [0, 5, 9, 10] gbe_58w gbe_58F) :: gbek1
theorem gbec2 : CutsOk tP gbeC gbeB gbek2 :=
 CutsOk.loop tM rfl gbeL gbec1 58 gbe_58s [0, 5, 9, 10] gbe_58w gbe_58F (by kernel_rfl) (by kernel_rfl) fun x => by kernel_rfl
def gbeE : Entry := ⟨17, gbea, (.ow (.cons .bool Z18)), gbeo, fun x => gbe x.1.1 x.1.2.1 x.2.1.1 x.2.1.2.1 x.2.1.2.2.1 x.2.1.2.2.2.1 x.2.1.2.2.2.2.1 x.2.1.2.2.2.2.2.1 x.2.1.2.2.2.2.2.2.1 x.2.1.2.2.2.2.2.2.2.1⟩
theorem gbeK : EntryOk tP gbeE :=
 entry_ok tM rfl gbeL (fn := Go.Proofs.Try.f17) Go.Proofs.Try.func17 (by kernel_rfl) (root := gbeB) (by kernel_rfl) gbec2 [] gbea (.ow (.cons .bool Z18)) gbeo (fun x => gbe x.1.1 x.1.2.1 x.2.1.1 x.2.1.2.1 x.2.1.2.2.1 x.2.1.2.2.2.1 x.2.1.2.2.2.2.1 x.2.1.2.2.2.2.2.1 x.2.1.2.2.2.2.2.2.1 x.2.1.2.2.2.2.2.2.2.1) (fun x => by kernel_rfl) fun x => by kernel_rfl
def gbfC : Ctx := ⟨tP, 32, 1, [(3, [7, 8, 9]), (5, [13, 14, 15, 16, 17, 18, 19, 20, 21, 22, 23, 24, 25, 26, 27, 28, 29, 30]), (4, [11, 12]), (6, [31])], [], []⟩
def gbfB : Code := (Go.Proofs.Try.f18.body).getD .skip
def gbfa : Shps := (shps [(.box Z10), (.sl (.one (.int .i64)))])
def gbfo : Shps := (shps [(.box Z10)])
def gbfO : List Entry := [gabE]
theorem gbfL : ∀ e ∈ gbfO, EntryOk tP e := by
 intro e he
 simp only [gbfO, List.mem_cons, List.not_mem_nil, or_false] at he
 rcases he with rfl
 ·exact gabK
def gbfk0 : List (Nat × Cut) := []
theorem gbfc0 : CutsOk tP gbfC gbfB gbfk0 := CutsOk.nil
def gbf_58s : Shps := (shps [(.box Z10), (.sl (.one (.int .i64))), (.ow Z18), (.int .i64)])
def gbf_58w : List Way := [.exit 0 (shps [(.box Z10), (.ow Z18)]) [0, 5]]
def gbfk1 : List (Nat × Cut) := (58, loopOf gbf_58s [0, 1, 5, 6] gbf_58w gbf_58F) :: gbfk0
theorem gbfc1 : CutsOk tP gbfC gbfB gbfk1 :=
 CutsOk.loop tM rfl gbfL gbfc0 58 gbf_58s [0, 1, 5, 6] gbf_58w gbf_58F (by kernel_rfl) (by kernel_rfl) fun x => by kernel_rfl
def gbfE : Entry := ⟨18, gbfa, (.ow Z18), gbfo, fun x => gbf x.1.1 x.1.2.1 x.2.1⟩
theorem gbfK : EntryOk tP gbfE :=
 entry_ok tM rfl gbfL (fn := Go.Proofs.Try.f18) Go.Proofs.Try.func18 (by kernel_rfl) (root := gbfB) (by kernel_rfl) gbfc1 [] gbfa (.ow Z18) gbfo (fun x => gbf x.1.1 x.1.2.1 x.2.1) (fun x => by kernel_rfl) fun x => by kernel_rfl
def gbgC : Ctx := ⟨tP, 24, 0, [(1, [7, 8, 9, 10, 11, 12, 13, 14, 15, 16, 17, 18, 19, 20, 21, 22, 23])], [], []⟩
def gbgB : Code := (Go.Proofs.Try.f112.body).getD .skip
def gbga : Shps := (shps [(.agg Z19), (.int .i64), (.int .i64)])
def gbgo : Shps := (shps [])
def gbgO : List Entry := []
theorem gbgL : ∀ e ∈ gbgO, EntryOk tP e := by
 intro e he; cases he
def gbgk0 : List (Nat × Cut) := []
theorem gbgc0 : CutsOk tP gbgC gbgB gbgk0 := CutsOk.nil
def gbgE : Entry := ⟨112, gbga, .bool, gbgo, fun x => gbg x.1.1 x.1.2.1 x.2.1 x.2.2.1⟩
theorem gbgK : EntryOk tP gbgE :=
 entry_ok tM rfl gbgL (fn := Go.Proofs.Try.f112) Go.Proofs.Try.func112 (by kernel_rfl) (root := gbgB) (by kernel_rfl) gbgc0 [] gbga .bool gbgo (fun x => gbg x.1.1 x.1.2.1 x.2.1 x.2.2.1) (fun x => by kernel_rfl) fun x => by kernel_rfl
def gbhC : Ctx := ⟨tP, 100, 0, [(1, [8, 9, 10, 11, 12, 13, 14, 15, 16]), (3, [18]), (5, [23, 24]), (6, [25, 26, 27, 28, 29, 30, 31]), (8, [33]), (9, [34, 35, 36]), (10, [37]), (12, [42, 43]), (13, [44, 45, 46, 47, 48, 49, 50, 51, 52, 53, 54, 55, 56, 57, 58, 59, 60, 61, 62, 63, 64, 65, 66, 67, 68, 69]), (15, [71, 72, 73, 74, 75, 76, 77, 78, 79, 80, 81, 82, 83, 84, 85, 86, 87]), (17, [89, 90, 91, 92, 93, 94, 95, 96, 97]), (19, [99])], [], []⟩
def gbhB : Code := (Go.Proofs.Try.f76.body).getD .skip
def gbha : Shps := (shps [(.agg (shps [(.sl Z21), (.sl (.cons (.int .i64) (.cons (.int .i64) (.cons (.int .i64) (.cons (.int .i64) (.cons .bool (.cons .bool (.cons (.int .i64) (.cons (.int .i64) Z18)))))))))]))])
def gbho : Shps := (shps [])
def gbhO : List Entry := [gbgE]
theorem gbhL : ∀ e ∈ gbhO, EntryOk tP e := by
 intro e he
 simp only [gbhO, List.mem_cons, List.not_mem_nil, or_false] at he
 rcases he with rfl
 ·exact gbgK
def gbhk0 : List (Nat × Cut) := []
theorem gbhc0 : CutsOk tP gbhC gbhB gbhk0 := CutsOk.nil
def gbh_58s : Shps := (shps [(.box (shps [(.sl Z21), (.sl (.cons (.int .i64) (.cons (.int .i64) (.cons (.int .i64) (.cons (.int .i64) (.cons .bool (.cons .bool (.cons (.int .i64) (.cons (.int .i64) Z18)))))))))])), (.sl Z21), (.int .i64), (.int .i64)])
def gbh_58w : List Way := [.ret (shps [(.int .i64)]) [2], .exit 0 (shps [(.box (shps [(.sl Z21), (.sl (.cons (.int .i64) (.cons (.int .i64) (.cons (.int .i64) (.cons (.int .i64) (.cons .bool (.cons .bool (.cons (.int .i64) (.cons (.int .i64) Z18)))))))))]))]) [1]]
def gbhk1 : List (Nat × Cut) := (58, loopOf gbh_58s [1, 19, 20, 21] gbh_58w gbh_58F) :: gbhk0
theorem gbhc1 : CutsOk tP gbhC gbhB gbhk1 :=
 CutsOk.loop tM rfl gbhL gbhc0 58 gbh_58s [1, 19, 20, 21] gbh_58w gbh_58F (by kernel_rfl) (by kernel_rfl) fun x => by kernel_rfl
def gbh_250s : Shps := (shps [(.int .i64), (.sl (.cons (.int .i64) (.cons (.int .i64) (.cons (.int .i64) (.cons (.int .i64) (.cons .bool (.cons .bool (.cons (.int .i64) (.cons (.int .i64) Z18))))))))), (.int .i64), (.int .i64)])
def gbh_250w : List Way := [.ret (shps [(.int .i64)]) [2], .exit 2 (shps []) []]
def gbhk2 : List (Nat × Cut) := (250, loopOf gbh_250s [5, 38, 39, 40] gbh_250w gbh_250F) :: gbhk1
theorem gbhc2 : CutsOk tP gbhC gbhB gbhk2 :=
 CutsOk.loop tM rfl gbhL gbhc1 250 gbh_250s [5, 38, 39, 40] gbh_250w gbh_250F (by kernel_rfl) (by kernel_rfl) fun x => by kernel_rfl
def gbhE : Entry := ⟨76, gbha, (.int .i64), gbho, fun x => gbh x.1.1 x.1.2.1⟩
theorem gbhK : EntryOk tP gbhE :=
 entry_ok tM rfl gbhL (fn := Go.Proofs.Try.f76) Go.Proofs.Try.func76 (by kernel_rfl) (root := gbhB) (by kernel_rfl) gbhc2 [] gbha (.int .i64) gbho (fun x => gbh x.1.1 x.1.2.1) (fun x => by kernel_rfl) fun x => by kernel_rfl
def gbiC : Ctx := ⟨tP, 71, 0, [(1, [5, 6]), (3, [8, 9, 10, 11, 12, 13, 14, 15, 16]), (5, [18]), (7, [23, 24, 25]), (8, [26, 27, 28, 29, 30, 31, 32, 33, 34, 35, 36, 37, 38, 39, 40, 41, 42]), (10, [44, 45, 46, 47, 48, 49, 50, 51, 52, 53, 54, 55, 56, 57, 58, 59, 60, 61, 62, 63, 64, 65, 66, 67, 68]), (12, [70])], [], []⟩
def gbiB : Code := (Go.Proofs.Try.f77.body).getD .skip
def gbia : Shps := (shps [(.agg Z24)])
def gbio : Shps := (shps [])
def gbiO : List Entry := []
theorem gbiL : ∀ e ∈ gbiO, EntryOk tP e := by
 intro e he; cases he
def gbik0 : List (Nat × Cut) := []
theorem gbic0 : CutsOk tP gbiC gbiB gbik0 := CutsOk.nil
def gbi_122s : Shps := (shps [(.box Z24), (.sl Z18), (.int .i64), (.int .i64)])
def gbi_122w : List Way := [.ret (shps [(.int .i64)]) [2], .exit 0 (shps []) []]
def gbik1 : List (Nat × Cut) := (122, loopOf gbi_122s [1, 19, 20, 21] gbi_122w gbi_122F) :: gbik0
theorem gbic1 : CutsOk tP gbiC gbiB gbik1 :=
 CutsOk.loop tM rfl gbiL gbic0 122 gbi_122s [1, 19, 20, 21] gbi_122w gbi_122F (by kernel_rfl) (by kernel_rfl) fun x => by kernel_rfl
def gbiE : Entry := ⟨77, gbia, (.int .i64), gbio, fun x => gbi x.1.1 x.1.2.1 x.1.2.2.1 x.1.2.2.2.1⟩
theorem gbiK : EntryOk tP gbiE :=
 entry_ok tM rfl gbiL (fn := Go.Proofs.Try.f77) Go.Proofs.Try.func77 (by kernel_rfl) (root := gbiB) (by kernel_rfl) gbic1 [] gbia (.int .i64) gbio (fun x => gbi x.1.1 x.1.2.1 x.1.2.2.1 x.1.2.2.2.1) (fun x => by kernel_rfl) fun x => by kernel_rfl
def gbjC : Ctx := ⟨tP, 95, 0, [(1, [8, 9]), (5, [15, 16, 17]), (6, [18, 19]), (8, [21, 22, 23, 24, 25, 26, 27, 28, 29]), (11, [31]), (13, [36, 37, 38]), (14, [39, 40, 41, 42, 43]), (16, [45, 46, 47, 48, 49, 50, 51, 52, 53, 54, 55, 56, 57, 58, 59]), (17, [60]), (18, [61]), (20, [63, 64, 65, 66, 67, 68, 69, 70, 71, 72, 73, 74, 75, 76, 77, 78, 79, 80, 81, 82, 83, 84, 85, 86, 87, 88, 89, 90, 91, 92]), (22, [94])], [], []⟩
def gbjB : Code := (Go.Proofs.Try.f78.body).getD .skip
def gbja : Shps := (shps [(.sl (.cons (.int .i64) Z11))])
def gbjo : Shps := (shps [])
def gbjO : List Entry := []
theorem gbjL : ∀ e ∈ gbjO, EntryOk tP e := by
 intro e he; cases he
def gbjk0 : List (Nat × Cut) := []
theorem gbjc0 : CutsOk tP gbjC gbjB gbjk0 := CutsOk.nil
def gbj_239226s : Shps := (shps [(.sl (.cons (.int .i64) Z11)), (.int .i64), (.box Z5), .bool, (.sl (.cons (.int .i64) Z11)), (.int .i64), (.int .i64), (.sl (.one (.int .i64))), (.int .i64), (.int .i64)])
def gbj_239226w : List Way := [.ret (shps [(.int .i64)]) [2], .exit 2 (shps [(.sl (.cons (.int .i64) Z11)), (.int .i64), (.box Z5), .bool, (.sl (.cons (.int .i64) Z11)), (.int .i64), (.int .i64)]) [0, 3, 4, 5, 11, 12, 13]]
def gbjk1 : List (Nat × Cut) := (239226, loopOf gbj_239226s [0, 3, 4, 5, 11, 12, 13, 32, 33, 34] gbj_239226w gbj_239226F) :: gbjk0
theorem gbjc1 : CutsOk tP gbjC gbjB gbjk1 :=
 CutsOk.loop tM rfl gbjL gbjc0 239226 gbj_239226s [0, 3, 4, 5, 11, 12, 13, 32, 33, 34] gbj_239226w gbj_239226F (by kernel_rfl) (by kernel_rfl) fun x => by kernel_rfl
def gbj_58s : Shps := (shps [(.sl (.cons (.int .i64) Z11)), (.sl (.cons (.int .i64) Z11)), (.int .i64), (.int .i64)])
def gbj_58w : List Way := [.ret (shps [(.int .i64)]) [2], .exit 0 (shps []) []]
def gbjk2 : List (Nat × Cut) := (58, loopOf gbj_58s [0, 11, 12, 13] gbj_58w gbj_58F) :: gbjk1
theorem gbjc2 : CutsOk tP gbjC gbjB gbjk2 :=
 CutsOk.loop tM rfl gbjL gbjc1 58 gbj_58s [0, 11, 12, 13] gbj_58w gbj_58F (by kernel_rfl) (by kernel_rfl) fun x => by kernel_rfl
def gbjE : Entry := ⟨78, gbja, (.int .i64), gbjo, fun x => gbj x.1⟩
theorem gbjK : EntryOk tP gbjE :=
 entry_ok tM rfl gbjL (fn := Go.Proofs.Try.f78) Go.Proofs.Try.func78 (by kernel_rfl) (root := gbjB) (by kernel_rfl) gbjc2 [] gbja (.int .i64) gbjo (fun x => gbj x.1) (fun x => by kernel_rfl) fun x => by kernel_rfl
def gbkC : Ctx := ⟨tP, 61, 0, [(1, [10, 11, 12]), (2, [13]), (3, [15]), (4, [16, 17, 18]), (6, [20]), (8, [25, 26]), (9, [27, 28]), (10, [29]), (11, [31]), (12, [32, 33, 34, 35, 36, 37]), (14, [39]), (15, [40, 41, 42]), (16, [43]), (17, [45]), (18, [46]), (20, [51, 52]), (21, [53, 54, 55, 56, 57, 58]), (23, [60])], [], []⟩
def gbkB : Code := (Go.Proofs.Try.f44.body).getD .skip
def gbka : Shps := (shps [(.agg (shps [(.sl Z21), (.sl (.cons (.int .i64) (.cons (.int .i64) (.cons (.int .i64) (.cons (.int .i64) (.cons .bool (.cons .bool (.cons (.int .i64) (.cons (.int .i64) Z18))))))))), (.sl (.cons (.int .i64) (.cons .bool Z25))), (.sl (.cons (.int .i64) Z11))]))])
def gbko : Shps := (shps [])
def gbkO : List Entry := [gbhE, gbiE, gbjE]
theorem gbkL : ∀ e ∈ gbkO, EntryOk tP e := by
 intro e he
 simp only [gbkO, List.mem_cons, List.not_mem_nil, or_false] at he
 rcases he with rfl | rfl | rfl
 ·exact gbhK
 ·exact gbiK
 ·exact gbjK
def gbkk0 : List (Nat × Cut) := []
theorem gbkc0 : CutsOk tP gbkC gbkB gbkk0 := CutsOk.nil
def gbk_122s : Shps := (shps [(.box (shps [(.sl Z21), (.sl (.cons (.int .i64) (.cons (.int .i64) (.cons (.int .i64) (.cons (.int .i64) (.cons .bool (.cons .bool (.cons (.int .i64) (.cons (.int .i64) Z18))))))))), (.sl (.cons (.int .i64) (.cons .bool Z25))), (.sl (.cons (.int .i64) Z11))])), (.sl (.cons (.int .i64) (.cons .bool Z25))), (.int .i64), (.int .i64)])
def gbk_122w : List Way := [.ret (shps [(.int .i64)]) [2], .exit 0 (shps [(.box (shps [(.sl Z21), (.sl (.cons (.int .i64) (.cons (.int .i64) (.cons (.int .i64) (.cons (.int .i64) (.cons .bool (.cons .bool (.cons (.int .i64) (.cons (.int .i64) Z18))))))))), (.sl (.cons (.int .i64) (.cons .bool Z25))), (.sl (.cons (.int .i64) Z11))]))]) [1]]
def gbkk1 : List (Nat × Cut) := (122, loopOf gbk_122s [1, 21, 22, 23] gbk_122w gbk_122F) :: gbkk0
theorem gbkc1 : CutsOk tP gbkC gbkB gbkk1 :=
 CutsOk.loop tM rfl gbkL gbkc0 122 gbk_122s [1, 21, 22, 23] gbk_122w gbk_122F (by kernel_rfl) (by kernel_rfl) fun x => by kernel_rfl
def gbk_506s : Shps := (shps [(.box (shps [(.sl Z21), (.sl (.cons (.int .i64) (.cons (.int .i64) (.cons (.int .i64) (.cons (.int .i64) (.cons .bool (.cons .bool (.cons (.int .i64) (.cons (.int .i64) Z18))))))))), (.sl (.cons (.int .i64) (.cons .bool Z25))), (.sl (.cons (.int .i64) Z11))])), (.sl (.cons (.int .i64) Z11)), (.int .i64), (.int .i64)])
def gbk_506w : List Way := [.ret (shps [(.int .i64)]) [2], .exit 2 (shps []) []]
def gbkk2 : List (Nat × Cut) := (506, loopOf gbk_506s [1, 47, 48, 49] gbk_506w gbk_506F) :: gbkk1
theorem gbkc2 : CutsOk tP gbkC gbkB gbkk2 :=
 CutsOk.loop tM rfl gbkL gbkc1 506 gbk_506s [1, 47, 48, 49] gbk_506w gbk_506F (by kernel_rfl) (by kernel_rfl) fun x => by kernel_rfl
def gbkE : Entry := ⟨44, gbka, (.int .i64), gbko, fun x => gbk x.1.1 x.1.2.1 x.1.2.2.1 x.1.2.2.2.1⟩
theorem gbkK : EntryOk tP gbkE :=
 entry_ok tM rfl gbkL (fn := Go.Proofs.Try.f44) Go.Proofs.Try.func44 (by kernel_rfl) (root := gbkB) (by kernel_rfl) gbkc2 [] gbka (.int .i64) gbko (fun x => gbk x.1.1 x.1.2.1 x.1.2.2.1 x.1.2.2.2.1) (fun x => by kernel_rfl) fun x => by kernel_rfl
def gblC : Ctx := ⟨tP, 24, 0, [(3, [13, 14]), (4, [15, 16, 17, 18, 19, 20, 21]), (6, [23])], [], []⟩
def gblB : Code := (Go.Proofs.Try.f113.body).getD .skip
def gbla : Shps := Z5
def gblo : Shps := (shps [])
def gblO : List Entry := []
theorem gblL : ∀ e ∈ gblO, EntryOk tP e := by
 intro e he; cases he
def gblk0 : List (Nat × Cut) := []
theorem gblc0 : CutsOk tP gblC gblB gblk0 := CutsOk.nil
def gbl_26s : Shps := (shps [(.int .i64), (.int .i64), (.sl (.one (.int .i64))), (.int .i64), (.int .i64)])
def gbl_26w : List Way := [.ret (shps [.bool]) [6], .exit 0 (shps []) []]
def gblk1 : List (Nat × Cut) := (26, loopOf gbl_26s [0, 1, 9, 10, 11] gbl_26w gbl_26F) :: gblk0
theorem gblc1 : CutsOk tP gblC gblB gblk1 :=
 CutsOk.loop tM rfl gblL gblc0 26 gbl_26s [0, 1, 9, 10, 11] gbl_26w gbl_26F (by kernel_rfl) (by kernel_rfl) fun x => by kernel_rfl
def gblE : Entry := ⟨113, gbla, .bool, gblo, fun x => gbl x.1 x.2.1 x.2.2.1⟩
theorem gblK : EntryOk tP gblE :=
 entry_ok tM rfl gblL (fn := Go.Proofs.Try.f113) Go.Proofs.Try.func113 (by kernel_rfl) (root := gblB) (by kernel_rfl) gblc1 [] gbla .bool gblo (fun x => gbl x.1 x.2.1 x.2.2.1) (fun x => by kernel_rfl) fun x => by kernel_rfl
def gbmC : Ctx := ⟨tP, 44, 0, [(1, [4, 5, 6, 7, 8]), (3, [10, 11, 12, 13, 14, 15, 16, 17, 18, 19, 20, 21, 22, 23, 24, 25, 26, 27, 28]), (5, [30, 31, 32, 33, 34, 35, 36, 37, 38, 39, 40, 41, 42, 43])], [], []⟩
def gbmB : Code := (Go.Proofs.Try.f79.body).getD .skip
def gbma : Shps := (shps [(.agg Z2)])
def gbmo : Shps := (shps [])
def gbmO : List Entry := [gblE]
theorem gbmL : ∀ e ∈ gbmO, EntryOk tP e := by
 intro e he
 simp only [gbmO, List.mem_cons, List.not_mem_nil, or_false] at he
 rcases he with rfl
 ·exact gblK
def gbmk0 : List (Nat × Cut) := []
theorem gbmc0 : CutsOk tP gbmC gbmB gbmk0 := CutsOk.nil
def gbmE : Entry := ⟨79, gbma, (.int .i64), gbmo, fun x => gbm x.1.1 x.1.2.1 x.1.2.2.1 x.1.2.2.2.1 x.1.2.2.2.2.1 x.1.2.2.2.2.2.1 x.1.2.2.2.2.2.2.1 x.1.2.2.2.2.2.2.2.1⟩
theorem gbmK : EntryOk tP gbmE :=
 entry_ok tM rfl gbmL (fn := Go.Proofs.Try.f79) Go.Proofs.Try.func79 (by kernel_rfl) (root := gbmB) (by kernel_rfl) gbmc0 [] gbma (.int .i64) gbmo (fun x => gbm x.1.1 x.1.2.1 x.1.2.2.1 x.1.2.2.2.1 x.1.2.2.2.2.1 x.1.2.2.2.2.2.1 x.1.2.2.2.2.2.2.1 x.1.2.2.2.2.2.2.2.1) (fun x => by kernel_rfl) fun x => by kernel_rfl
def gbnC : Ctx := ⟨tP, 12, 0, [(1, [5, 6, 7, 8, 9, 10, 11])], [], []⟩
def gbnB : Code := (Go.Proofs.Try.f54.body).getD .skip
def gbna : Shps := Z19
def gbno : Shps := (shps [])
def gbnO : List Entry := []
theorem gbnL : ∀ e ∈ gbnO, EntryOk tP e := by
 intro e he; cases he
def gbnk0 : List (Nat × Cut) := []
theorem gbnc0 : CutsOk tP gbnC gbnB gbnk0 := CutsOk.nil
def gbnE : Entry := ⟨54, gbna, .bool, gbno, fun x => gbn x.1 x.2.1⟩
theorem gbnK : EntryOk tP gbnE :=
 entry_ok tM rfl gbnL (fn := Go.Proofs.Try.f54) Go.Proofs.Try.func54 (by kernel_rfl) (root := gbnB) (by kernel_rfl) gbnc0 [] gbna .bool gbno (fun x => gbn x.1 x.2.1) (fun x => by kernel_rfl) fun x => by kernel_rfl
def gboC : Ctx := ⟨tP, 62, 0, [(1, [9]), (3, [14, 15, 16]), (4, [17, 18]), (5, [19]), (6, [21]), (7, [22, 23, 24, 25, 26]), (8, [27]), (9, [30]), (10, [31, 32, 33, 34]), (11, [36]), (12, [37, 38, 39, 40]), (13, [41, 42, 43, 44]), (15, [46, 47, 48]), (17, [53, 54]), (18, [55, 56, 57, 58]), (20, [60]), (21, [61])], [], []⟩
def gboB : Code := (Go.Proofs.Try.f45.body).getD .skip
def gboa : Shps := (shps [(.agg (shps [(.sl Z21), (.sl (.cons (.int .i64) (.cons (.int .i64) (.cons (.int .i64) (.cons (.int .i64) (.cons .bool (.cons .bool (.cons (.int .i64) (.cons (.int .i64) Z18))))))))), (.sl (.cons (.int .i64) (.cons .bool Z25))), (.sl (.cons (.int .i64) Z11)), (.sl (.cons (.int .i64) (.cons (.int .i64) (.cons (.int .i64) (.cons (.int .i64) (.cons (.int .i64) (.cons (.int .i64) Z18))))))), (.sl (.cons (.int .i64) (.cons (.int .i64) (.cons (.int .i64) (.cons (.int .i64) Z18))))), (.sl (.cons (.sl (.cons (.int .i64) (.cons (.int .i64) Z18))) (.cons (.int .i64) Z12))), (.sl (.one (.int .i64)))]))])
def gboo : Shps := (shps [])
def gboO : List Entry := [gbmE, gbnE]
theorem gboL : ∀ e ∈ gboO, EntryOk tP e := by
 intro e he
 simp only [gboO, List.mem_cons, List.not_mem_nil, or_false] at he
 rcases he with rfl | rfl
 ·exact gbmK
 ·exact gbnK
def gbok0 : List (Nat × Cut) := []
theorem gboc0 : CutsOk tP gboC gboB gbok0 := CutsOk.nil
def gbo_108158s : Shps := (shps [(.box (shps [(.sl Z21), (.sl (.cons (.int .i64) (.cons (.int .i64) (.cons (.int .i64) (.cons (.int .i64) (.cons .bool (.cons .bool (.cons (.int .i64) (.cons (.int .i64) Z18))))))))), (.sl (.cons (.int .i64) (.cons .bool Z25))), (.sl (.cons (.int .i64) Z11)), (.sl (.cons (.int .i64) (.cons (.int .i64) (.cons (.int .i64) (.cons (.int .i64) (.cons (.int .i64) (.cons (.int .i64) Z18))))))), (.sl (.cons (.int .i64) (.cons (.int .i64) (.cons (.int .i64) (.cons (.int .i64) Z18))))), (.sl (.cons (.sl (.cons (.int .i64) (.cons (.int .i64) Z18))) (.cons (.int .i64) Z12))), (.sl (.one (.int .i64)))])), (.box Z2), (.sl (.cons (.int .i64) (.cons (.int .i64) (.cons (.int .i64) (.cons (.int .i64) (.cons (.int .i64) (.cons (.int .i64) Z18))))))), (.int .i64), (.int .i64), (.sl (.cons (.int .i64) (.cons (.int .i64) (.cons (.int .i64) (.cons (.int .i64) (.cons (.int .i64) (.cons (.int .i64) Z18))))))), (.int .i64), (.int .i64)])
def gbo_108158w : List Way := [.ret (shps [(.int .i64)]) [2], .exit 3 (shps [(.box (shps [(.sl Z21), (.sl (.cons (.int .i64) (.cons (.int .i64) (.cons (.int .i64) (.cons (.int .i64) (.cons .bool (.cons .bool (.cons (.int .i64) (.cons (.int .i64) Z18))))))))), (.sl (.cons (.int .i64) (.cons .bool Z25))), (.sl (.cons (.int .i64) Z11)), (.sl (.cons (.int .i64) (.cons (.int .i64) (.cons (.int .i64) (.cons (.int .i64) (.cons (.int .i64) (.cons (.int .i64) Z18))))))), (.sl (.cons (.int .i64) (.cons (.int .i64) (.cons (.int .i64) (.cons (.int .i64) Z18))))), (.sl (.cons (.sl (.cons (.int .i64) (.cons (.int .i64) Z18))) (.cons (.int .i64) Z12))), (.sl (.one (.int .i64)))])), (.sl (.cons (.int .i64) (.cons (.int .i64) (.cons (.int .i64) (.cons (.int .i64) (.cons (.int .i64) (.cons (.int .i64) Z18))))))), (.int .i64), (.int .i64)]) [1, 10, 11, 12]]
def gbok1 : List (Nat × Cut) := (108158, loopOf gbo_108158s [1, 4, 10, 11, 12, 49, 50, 51] gbo_108158w gbo_108158F) :: gbok0
theorem gboc1 : CutsOk tP gboC gboB gbok1 :=
 CutsOk.loop tM rfl gboL gboc0 108158 gbo_108158s [1, 4, 10, 11, 12, 49, 50, 51] gbo_108158w gbo_108158F (by kernel_rfl) (by kernel_rfl) fun x => by kernel_rfl
def gbo_13519s : Shps := (shps [(.box (shps [(.sl Z21), (.sl (.cons (.int .i64) (.cons (.int .i64) (.cons (.int .i64) (.cons (.int .i64) (.cons .bool (.cons .bool (.cons (.int .i64) (.cons (.int .i64) Z18))))))))), (.sl (.cons (.int .i64) (.cons .bool Z25))), (.sl (.cons (.int .i64) Z11)), (.sl (.cons (.int .i64) (.cons (.int .i64) (.cons (.int .i64) (.cons (.int .i64) (.cons (.int .i64) (.cons (.int .i64) Z18))))))), (.sl (.cons (.int .i64) (.cons (.int .i64) (.cons (.int .i64) (.cons (.int .i64) Z18))))), (.sl (.cons (.sl (.cons (.int .i64) (.cons (.int .i64) Z18))) (.cons (.int .i64) Z12))), (.sl (.one (.int .i64)))])), (.int .i64), (.box Z2), (.int .i64), (.sl (.cons (.int .i64) (.cons (.int .i64) (.cons (.int .i64) (.cons (.int .i64) (.cons (.int .i64) (.cons (.int .i64) Z18))))))), (.int .i64), (.int .i64)])
def gbo_13519w : List Way := [.ret (shps [(.int .i64)]) [2], .norm (shps [(.box (shps [(.sl Z21), (.sl (.cons (.int .i64) (.cons (.int .i64) (.cons (.int .i64) (.cons (.int .i64) (.cons .bool (.cons .bool (.cons (.int .i64) (.cons (.int .i64) Z18))))))))), (.sl (.cons (.int .i64) (.cons .bool Z25))), (.sl (.cons (.int .i64) Z11)), (.sl (.cons (.int .i64) (.cons (.int .i64) (.cons (.int .i64) (.cons (.int .i64) (.cons (.int .i64) (.cons (.int .i64) Z18))))))), (.sl (.cons (.int .i64) (.cons (.int .i64) (.cons (.int .i64) (.cons (.int .i64) Z18))))), (.sl (.cons (.sl (.cons (.int .i64) (.cons (.int .i64) Z18))) (.cons (.int .i64) Z12))), (.sl (.one (.int .i64)))])), (.sl (.cons (.int .i64) (.cons (.int .i64) (.cons (.int .i64) (.cons (.int .i64) (.cons (.int .i64) (.cons (.int .i64) Z18))))))), (.int .i64), (.int .i64)]) [1, 10, 11, 12]]
def gbok2 : List (Nat × Cut) := (13519, cutOf gbo_13519s [1, 3, 4, 6, 10, 11, 12] gbo_13519w fun x => gbo_13519 x.1.1 x.1.2.1 x.1.2.2.1 x.1.2.2.2.1 x.1.2.2.2.2.1 x.1.2.2.2.2.2.1 x.1.2.2.2.2.2.2.1 x.1.2.2.2.2.2.2.2.1 x.2.1 x.2.2.1.1 x.2.2.1.2.1 x.2.2.1.2.2.1 x.2.2.1.2.2.2.1 x.2.2.1.2.2.2.2.1 x.2.2.1.2.2.2.2.2.1 x.2.2.1.2.2.2.2.2.2.1 x.2.2.1.2.2.2.2.2.2.2.1 x.2.2.2.1 x.2.2.2.2.1 x.2.2.2.2.2.1 x.2.2.2.2.2.2.1) :: gbok1
theorem gboc2 : CutsOk tP gboC gboB gbok2 :=
 CutsOk.cut tM rfl gboL gboc1 13519 gbo_13519s [1, 3, 4, 6, 10, 11, 12] gbo_13519w (fun x => gbo_13519 x.1.1 x.1.2.1 x.1.2.2.1 x.1.2.2.2.1 x.1.2.2.2.2.1 x.1.2.2.2.2.2.1 x.1.2.2.2.2.2.2.1 x.1.2.2.2.2.2.2.2.1 x.2.1 x.2.2.1.1 x.2.2.1.2.1 x.2.2.1.2.2.1 x.2.2.1.2.2.2.1 x.2.2.1.2.2.2.2.1 x.2.2.1.2.2.2.2.2.1 x.2.2.1.2.2.2.2.2.2.1 x.2.2.1.2.2.2.2.2.2.2.1 x.2.2.2.1 x.2.2.2.2.1 x.2.2.2.2.2.1 x.2.2.2.2.2.2.1) (by kernel_rfl) fun x => by kernel_rfl
def gbo_26s : Shps := (shps [(.box (shps [(.sl Z21), (.sl (.cons (.int .i64) (.cons (.int .i64) (.cons (.int .i64) (.cons (.int .i64) (.cons .bool (.cons .bool (.cons (.int .i64) (.cons (.int .i64) Z18))))))))), (.sl (.cons (.int .i64) (.cons .bool Z25))), (.sl (.cons (.int .i64) Z11)), (.sl (.cons (.int .i64) (.cons (.int .i64) (.cons (.int .i64) (.cons (.int .i64) (.cons (.int .i64) (.cons (.int .i64) Z18))))))), (.sl (.cons (.int .i64) (.cons (.int .i64) (.cons (.int .i64) (.cons (.int .i64) Z18))))), (.sl (.cons (.sl (.cons (.int .i64) (.cons (.int .i64) Z18))) (.cons (.int .i64) Z12))), (.sl (.one (.int .i64)))])), (.sl (.cons (.int .i64) (.cons (.int .i64) (.cons (.int .i64) (.cons (.int .i64) (.cons (.int .i64) (.cons (.int .i64) Z18))))))), (.int .i64), (.int .i64)])
def gbo_26w : List Way := [.ret (shps [(.int .i64)]) [2], .exit 0 (shps []) []]
def gbok3 : List (Nat × Cut) := (26, loopOf gbo_26s [1, 10, 11, 12] gbo_26w gbo_26F) :: gbok2
theorem gboc3 : CutsOk tP gboC gboB gbok3 :=
 CutsOk.loop tM rfl gboL gboc2 26 gbo_26s [1, 10, 11, 12] gbo_26w gbo_26F (by kernel_rfl) (by kernel_rfl) fun x => by kernel_rfl
def gboE : Entry := ⟨45, gboa, (.int .i64), gboo, fun x => gbo x.1.1 x.1.2.1 x.1.2.2.1 x.1.2.2.2.1 x.1.2.2.2.2.1 x.1.2.2.2.2.2.1 x.1.2.2.2.2.2.2.1 x.1.2.2.2.2.2.2.2.1⟩
theorem gboK : EntryOk tP gboE :=
 entry_ok tM rfl gboL (fn := Go.Proofs.Try.f45) Go.Proofs.Try.func45 (by kernel_rfl) (root := gboB) (by kernel_rfl) gboc3 [] gboa (.int .i64) gboo (fun x => gbo x.1.1 x.1.2.1 x.1.2.2.1 x.1.2.2.2.1 x.1.2.2.2.2.1 x.1.2.2.2.2.2.1 x.1.2.2.2.2.2.2.1 x.1.2.2.2.2.2.2.2.1) (fun x => by kernel_rfl) fun x => by kernel_rfl
def gbpC : Ctx := ⟨tP, 28, 0, [(1, [3, 4, 5, 6, 7, 8, 9, 10, 11, 12, 13, 14, 15, 16, 17, 18, 19, 20, 21, 22, 23, 24, 25, 26])], [], []⟩
def gbpB : Code := (Go.Proofs.Try.f80.body).getD .skip
def gbpa : Shps := (shps [(.agg Z13)])
def gbpo : Shps := (shps [])
def gbpO : List Entry := []
theorem gbpL : ∀ e ∈ gbpO, EntryOk tP e := by
 intro e he; cases he
def gbpk0 : List (Nat × Cut) := []
theorem gbpc0 : CutsOk tP gbpC gbpB gbpk0 := CutsOk.nil
def gbpE : Entry := ⟨80, gbpa, (.int .i64), gbpo, fun x => gbp x.1.1 x.1.2.1 x.1.2.2.1⟩
theorem gbpK : EntryOk tP gbpE :=
 entry_ok tM rfl gbpL (fn := Go.Proofs.Try.f80) Go.Proofs.Try.func80 (by kernel_rfl) (root := gbpB) (by kernel_rfl) gbpc0 [] gbpa (.int .i64) gbpo (fun x => gbp x.1.1 x.1.2.1 x.1.2.2.1) (fun x => by kernel_rfl) fun x => by kernel_rfl
def gbqC : Ctx := ⟨tP, 62, 0, [(1, [5]), (3, [8]), (4, [9]), (5, [10]), (6, [11, 12, 13, 14, 15, 16]), (8, [19]), (9, [20, 21, 22, 23, 24, 25, 26, 27, 28, 29, 30, 31, 32, 33, 34, 35]), (11, [38]), (12, [39, 40, 41, 42, 43, 44, 45, 46]), (14, [48, 49, 50, 51, 52, 53, 54]), (16, [56, 57]), (17, [59, 60, 61])], [], []⟩
def gbqB : Code := (Go.Proofs.Try.f46.body).getD .skip
def gbqa : Shps := (shps [(.agg (shps [(.sl Z21), (.sl (.cons (.int .i64) (.cons (.int .i64) (.cons (.int .i64) (.cons (.int .i64) (.cons .bool (.cons .bool (.cons (.int .i64) (.cons (.int .i64) Z18))))))))), (.sl (.cons (.int .i64) (.cons .bool Z25))), (.sl (.cons (.int .i64) Z11)), (.sl (.cons (.int .i64) (.cons (.int .i64) (.cons (.int .i64) (.cons (.int .i64) (.cons (.int .i64) (.cons (.int .i64) Z18))))))), (.sl (.cons (.int .i64) (.cons (.int .i64) (.cons (.int .i64) (.cons (.int .i64) Z18))))), (.sl (.cons (.sl (.cons (.int .i64) (.cons (.int .i64) Z18))) (.cons (.int .i64) Z12))), (.sl (.one (.int .i64)))])), (.agg Z3)])
def gbqo : Shps := (shps [])
def gbqO : List Entry := [gbnE, gbpE]
theorem gbqL : ∀ e ∈ gbqO, EntryOk tP e := by
 intro e he
 simp only [gbqO, List.mem_cons, List.not_mem_nil, or_false] at he
 rcases he with rfl | rfl
 ·exact gbnK
 ·exact gbpK
def gbqk0 : List (Nat × Cut) := []
theorem gbqc0 : CutsOk tP gbqC gbqB gbqk0 := CutsOk.nil
def gbq_53s : Shps := (shps [(.box (shps [(.sl Z21), (.sl (.cons (.int .i64) (.cons (.int .i64) (.cons (.int .i64) (.cons (.int .i64) (.cons .bool (.cons .bool (.cons (.int .i64) (.cons (.int .i64) Z18))))))))), (.sl (.cons (.int .i64) (.cons .bool Z25))), (.sl (.cons (.int .i64) Z11)), (.sl (.cons (.int .i64) (.cons (.int .i64) (.cons (.int .i64) (.cons (.int .i64) (.cons (.int .i64) (.cons (.int .i64) Z18))))))), (.sl (.cons (.int .i64) (.cons (.int .i64) (.cons (.int .i64) (.cons (.int .i64) Z18))))), (.sl (.cons (.sl (.cons (.int .i64) (.cons (.int .i64) Z18))) (.cons (.int .i64) Z12))), (.sl (.one (.int .i64)))])), (.box Z3), (.int .i64), .bool])
def gbq_53w : List Way := [.ret (shps [(.int .i64)]) [4], .norm (shps [(.box Z3)]) [3]]
def gbqk1 : List (Nat × Cut) := (53, cutOf gbq_53s [2, 3, 6, 7] gbq_53w fun x => gbq_53 x.1.1 x.1.2.1 x.1.2.2.1 x.1.2.2.2.1 x.1.2.2.2.2.1 x.1.2.2.2.2.2.1 x.1.2.2.2.2.2.2.1 x.1.2.2.2.2.2.2.2.1 x.2.1.1 x.2.1.2.1 x.2.1.2.2.1 x.2.1.2.2.2.1 x.2.1.2.2.2.2.1 x.2.1.2.2.2.2.2.1 x.2.2.1 x.2.2.2.1) :: gbqk0
theorem gbqc1 : CutsOk tP gbqC gbqB gbqk1 :=
 CutsOk.cut tM rfl gbqL gbqc0 53 gbq_53s [2, 3, 6, 7] gbq_53w (fun x => gbq_53 x.1.1 x.1.2.1 x.1.2.2.1 x.1.2.2.2.1 x.1.2.2.2.2.1 x.1.2.2.2.2.2.1 x.1.2.2.2.2.2.2.1 x.1.2.2.2.2.2.2.2.1 x.2.1.1 x.2.1.2.1 x.2.1.2.2.1 x.2.1.2.2.2.1 x.2.1.2.2.2.2.1 x.2.1.2.2.2.2.2.1 x.2.2.1 x.2.2.2.1) (by kernel_rfl) fun x => by kernel_rfl
def gbq_7s : Shps := (shps [(.box Z3)])
def gbq_7w : List Way := [.ret (shps [(.int .i64)]) [4]]
def gbqk2 : List (Nat × Cut) := (7, cutOf gbq_7s [3] gbq_7w fun x => gbq_7 x.1.1 x.1.2.1 x.1.2.2.1 x.1.2.2.2.1 x.1.2.2.2.2.1 x.1.2.2.2.2.2.1) :: gbqk1
theorem gbqc2 : CutsOk tP gbqC gbqB gbqk2 :=
 CutsOk.cut tM rfl gbqL gbqc1 7 gbq_7s [3] gbq_7w (fun x => gbq_7 x.1.1 x.1.2.1 x.1.2.2.1 x.1.2.2.2.1 x.1.2.2.2.2.1 x.1.2.2.2.2.2.1) (by kernel_rfl) fun x => by kernel_rfl
def gbqE : Entry := ⟨46, gbqa, (.int .i64), gbqo, fun x => gbq x.1.1 x.1.2.1 x.1.2.2.1 x.1.2.2.2.1 x.1.2.2.2.2.1 x.1.2.2.2.2.2.1 x.1.2.2.2.2.2.2.1 x.1.2.2.2.2.2.2.2.1 x.2.1.1 x.2.1.2.1 x.2.1.2.2.1 x.2.1.2.2.2.1 x.2.1.2.2.2.2.1 x.2.1.2.2.2.2.2.1⟩
theorem gbqK : EntryOk tP gbqE :=
 entry_ok tM rfl gbqL (fn := Go.Proofs.Try.f46) Go.Proofs.Try.func46 (by kernel_rfl) (root := gbqB) (by kernel_rfl) gbqc2 [] gbqa (.int .i64) gbqo (fun x => gbq x.1.1 x.1.2.1 x.1.2.2.1 x.1.2.2.2.1 x.1.2.2.2.2.1 x.1.2.2.2.2.2.1 x.1.2.2.2.2.2.2.1 x.1.2.2.2.2.2.2.2.1 x.2.1.1 x.2.1.2.1 x.2.1.2.2.1 x.2.1.2.2.2.1 x.2.1.2.2.2.2.1 x.2.1.2.2.2.2.2.1) (fun x => by kernel_rfl) fun x => by kernel_rfl
def gbrC : Ctx := ⟨tP, 122, 0, [(1, [16]), (3, [18, 19, 20, 21]), (4, [22]), (5, [25]), (6, [26, 27, 28, 29, 30, 31, 32, 33, 34, 35, 36, 37, 38, 39, 40, 41, 42, 43, 44]), (7, [46]), (8, [47, 48, 49, 50, 51, 52, 53, 54]), (9, [55, 56, 57, 58, 59, 60, 61, 62, 63, 64, 65, 66, 67, 68, 69, 70, 71, 72, 73, 74, 75]), (10, [77]), (11, [78]), (12, [79, 80, 81, 82, 83, 84, 85, 86]), (13, [87, 88, 89, 90, 91, 92, 93, 94, 95, 96, 97, 98, 99, 100, 101, 102, 103, 104, 105, 106]), (15, [108, 109, 110, 111, 112, 113, 114, 115]), (16, [116, 117, 118, 119, 120, 121])], [], []⟩
def gbrB : Code := (Go.Proofs.Try.f115.body).getD .skip
def gbra : Shps := (shps [(.sl (.cons (.int .i64) (.cons (.int .i64) Z18))), (.int .i64)])
def gbro : Shps := (shps [])
def gbrR (rec : (List (Int × Int × Int × Int) × Int × Unit) → Option ((Int × Int × Bool × Unit) × Unit)) : Entry := ⟨115, gbra, (.tup Z17), gbro, rec⟩
def gbrO (rec : (List (Int × Int × Int × Int) × Int × Unit) → Option ((Int × Int × Bool × Unit) × Unit)) : List Entry := [gbrR rec]
theorem gbrL (rec : (List (Int × Int × Int × Int) × Int × Unit) → Option ((Int × Int × Bool × Unit) × Unit)) (hrec : EntryOk tP (gbrR rec)) : ∀ e ∈ (gbrO rec), EntryOk tP e := by
 intro e he
 simp only [gbrO, List.mem_cons, List.not_mem_nil, or_false] at he
 rcases he with rfl
 ·exact hrec
def gbrk0 (rec : (List (Int × Int × Int × Int) × Int × Unit) → Option ((Int × Int × Bool × Unit) × Unit)) : List (Nat × Cut) := []
theorem gbrc0 (rec : (List (Int × Int × Int × Int) × Int × Unit) → Option ((Int × Int × Bool × Unit) × Unit)) (hrec : EntryOk tP (gbrR rec)) : CutsOk tP gbrC gbrB (gbrk0 rec) := CutsOk.nil
def gbr_3935s : Shps := (shps [(.sl (.cons (.int .i64) (.cons (.int .i64) Z18))), (.int .i64), (.box Z9), .bool])
def gbr_3935w : List Way := [.ret Z17 [4, 5, 6], .norm (shps []) []]
def gbrk1 (rec : (List (Int × Int × Int × Int) × Int × Unit) → Option ((Int × Int × Bool × Unit) × Unit)) : List (Nat × Cut) := (3935, cutOf gbr_3935s [0, 1, 7, 76] gbr_3935w fun x => gbr_3935 rec x.1 x.2.1 x.2.2.1.1 x.2.2.1.2.1 x.2.2.1.2.2.1 x.2.2.1.2.2.2.1 x.2.2.2.1) :: (gbrk0 rec)
theorem gbrc1 (rec : (List (Int × Int × Int × Int) × Int × Unit) → Option ((Int × Int × Bool × Unit) × Unit)) (hrec : EntryOk tP (gbrR rec)) : CutsOk tP gbrC gbrB (gbrk1 rec) :=
 CutsOk.cut tM rfl (gbrL rec hrec) (gbrc0 rec hrec) 3935 gbr_3935s [0, 1, 7, 76] gbr_3935w (fun x => gbr_3935 rec x.1 x.2.1 x.2.2.1.1 x.2.2.1.2.1 x.2.2.1.2.2.1 x.2.2.1.2.2.2.1 x.2.2.2.1) (by kernel_rfl) fun x => by kernel_rfl
theorem gbrKb (rec : (List (Int × Int × Int × Int) × Int × Unit) → Option ((Int × Int × Bool × Unit) × Unit)) (hrec : EntryOk tP (gbrR rec)) : EntryOk tP ⟨115, gbra, (.tup Z17), gbro, fun x => gbrb rec x.1 x.2.1⟩ :=
 entry_ok tM rfl (gbrL rec hrec) (fn := Go.Proofs.Try.f115) Go.Proofs.Try.func115 (by kernel_rfl) (root := gbrB) (by kernel_rfl) (gbrc1 rec hrec) [] gbra (.tup Z17) gbro (fun x => gbrb rec x.1 x.2.1) (fun x => by kernel_rfl) fun x => by kernel_rfl
theorem gbrKi : ∀ n, EntryOk tP (gbrR (gbri n))
 | 0 => fun x y h => by cases h
 | n + 1 => gbrKb (gbri n) (gbrKi n)
def gbrE : Entry := ⟨115, gbra, (.tup Z17), gbro, fun x => gbr x.1 x.2.1⟩
theorem gbrK : EntryOk tP gbrE := gbrKi 1000000
def gbsC : Ctx := ⟨tP, 32, 0, [(1, [6, 7, 8, 9, 10, 11, 12]), (3, [14, 15, 16, 17, 18, 19, 20, 21, 22]), (4, [23, 24, 25, 26, 27, 28, 29, 30, 31])], [], []⟩
def gbsB : Code := (Go.Proofs.Try.f98.body).getD .skip
def gbsa : Shps := (shps [(.sl (.cons (.int .i64) (.cons (.int .i64) Z18)))])
def gbso : Shps := (shps [])
def gbsO : List Entry := [gbrE]
theorem gbsL : ∀ e ∈ gbsO, EntryOk tP e := by
 intro e he
 simp only [gbsO, List.mem_cons, List.not_mem_nil, or_false] at he
 rcases he with rfl
 ·exact gbrK
def gbsk0 : List (Nat × Cut) := []
theorem gbsc0 : CutsOk tP gbsC gbsB gbsk0 := CutsOk.nil
def gbsE : Entry := ⟨98, gbsa, .bool, gbso, fun x => gbs x.1⟩
theorem gbsK : EntryOk tP gbsE :=
 entry_ok tM rfl gbsL (fn := Go.Proofs.Try.f98) Go.Proofs.Try.func98 (by kernel_rfl) (root := gbsB) (by kernel_rfl) gbsc0 [] gbsa .bool gbso (fun x => gbs x.1) (fun x => by kernel_rfl) fun x => by kernel_rfl
def gbtC : Ctx := ⟨tP, 26, 0, [(1, [7, 8]), (5, [14, 15]), (6, [16, 17, 18, 19, 20, 21, 22, 23]), (8, [25])], [], []⟩
def gbtB : Code := (Go.Proofs.Try.f81.body).getD .skip
def gbta : Shps := (shps [(.sl (.cons (.int .i64) (.cons (.int .i64) Z18))), (.int .i64)])
def gbto : Shps := (shps [])
def gbtO : List Entry := [gbsE]
theorem gbtL : ∀ e ∈ gbtO, EntryOk tP e := by
 intro e he
 simp only [gbtO, List.mem_cons, List.not_mem_nil, or_false] at he
 rcases he with rfl
 ·exact gbsK
def gbtk0 : List (Nat × Cut) := []
theorem gbtc0 : CutsOk tP gbtC gbtB gbtk0 := CutsOk.nil
def gbt_58s : Shps := (shps [(.int .i64), (.sl (.cons (.int .i64) (.cons (.int .i64) Z18))), (.int .i64), (.int .i64)])
def gbt_58w : List Way := [.ret (shps [(.int .i64)]) [4], .exit 0 (shps []) []]
def gbtk1 : List (Nat × Cut) := (58, loopOf gbt_58s [1, 10, 11, 12] gbt_58w gbt_58F) :: gbtk0
theorem gbtc1 : CutsOk tP gbtC gbtB gbtk1 :=
 CutsOk.loop tM rfl gbtL gbtc0 58 gbt_58s [1, 10, 11, 12] gbt_58w gbt_58F (by kernel_rfl) (by kernel_rfl) fun x => by kernel_rfl
def gbtE : Entry := ⟨81, gbta, (.int .i64), gbto, fun x => gbt x.1 x.2.1⟩
theorem gbtK : EntryOk tP gbtE :=
 entry_ok tM rfl gbtL (fn := Go.Proofs.Try.f81) Go.Proofs.Try.func81 (by kernel_rfl) (root := gbtB) (by kernel_rfl) gbtc1 [] gbta (.int .i64) gbto (fun x => gbt x.1 x.2.1) (fun x => by kernel_rfl) fun x => by kernel_rfl
def gbuC : Ctx := ⟨tP, 66, 0, [(1, [8, 9, 10, 11, 12, 13]), (2, [14]), (3, [16]), (4, [17, 18, 19, 20, 21, 22, 23, 24, 25, 26, 27, 28, 29, 30, 31, 32, 33]), (6, [35]), (8, [40, 41, 42]), (9, [43, 44, 45, 46, 47, 48, 49, 50, 51, 52, 53, 54, 55, 56, 57, 58, 59, 60, 61, 62, 63]), (11, [65])], [], []⟩
def gbuB : Code := (Go.Proofs.Try.f47.body).getD .skip
def gbua : Shps := (shps [(.agg (shps [(.sl Z21), (.sl (.cons (.int .i64) (.cons (.int .i64) (.cons (.int .i64) (.cons (.int .i64) (.cons .bool (.cons .bool (.cons (.int .i64) (.cons (.int .i64) Z18))))))))), (.sl (.cons (.int .i64) (.cons .bool Z25))), (.sl (.cons (.int .i64) Z11)), (.sl (.cons (.int .i64) (.cons (.int .i64) (.cons (.int .i64) (.cons (.int .i64) (.cons (.int .i64) (.cons (.int .i64) Z18))))))), (.sl (.cons (.int .i64) (.cons (.int .i64) (.cons (.int .i64) (.cons (.int .i64) Z18))))), (.sl (.cons (.sl (.cons (.int .i64) (.cons (.int .i64) Z18))) (.cons (.int .i64) Z12))), (.sl (.one (.int .i64)))])), (.agg (shps [(.sl (.cons (.int .i64) (.cons (.int .i64) Z18))), (.int .i64), (.sl (.one (.int .i64))), (.int .i64)]))])
def gbuo : Shps := (shps [])
def gbuO : List Entry := [gbtE, gbnE]
theorem gbuL : ∀ e ∈ gbuO, EntryOk tP e := by
 intro e he
 simp only [gbuO, List.mem_cons, List.not_mem_nil, or_false] at he
 rcases he with rfl | rfl
 ·exact gbtK
 ·exact gbnK
def gbuk0 : List (Nat × Cut) := []
theorem gbuc0 : CutsOk tP gbuC gbuB gbuk0 := CutsOk.nil
def gbu_122s : Shps := (shps [(.box (shps [(.sl Z21), (.sl (.cons (.int .i64) (.cons (.int .i64) (.cons (.int .i64) (.cons (.int .i64) (.cons .bool (.cons .bool (.cons (.int .i64) (.cons (.int .i64) Z18))))))))), (.sl (.cons (.int .i64) (.cons .bool Z25))), (.sl (.cons (.int .i64) Z11)), (.sl (.cons (.int .i64) (.cons (.int .i64) (.cons (.int .i64) (.cons (.int .i64) (.cons (.int .i64) (.cons (.int .i64) Z18))))))), (.sl (.cons (.int .i64) (.cons (.int .i64) (.cons (.int .i64) (.cons (.int .i64) Z18))))), (.sl (.cons (.sl (.cons (.int .i64) (.cons (.int .i64) Z18))) (.cons (.int .i64) Z12))), (.sl (.one (.int .i64)))])), (.box (shps [(.sl (.cons (.int .i64) (.cons (.int .i64) Z18))), (.int .i64), (.sl (.one (.int .i64))), (.int .i64)])), (.sl (.one (.int .i64))), (.int .i64), (.int .i64)])
def gbu_122w : List Way := [.ret (shps [(.int .i64)]) [4], .exit 0 (shps []) []]
def gbuk1 : List (Nat × Cut) := (122, loopOf gbu_122s [2, 3, 36, 37, 38] gbu_122w gbu_122F) :: gbuk0
theorem gbuc1 : CutsOk tP gbuC gbuB gbuk1 :=
 CutsOk.loop tM rfl gbuL gbuc0 122 gbu_122s [2, 3, 36, 37, 38] gbu_122w gbu_122F (by kernel_rfl) (by kernel_rfl) fun x => by kernel_rfl
def gbuE : Entry := ⟨47, gbua, (.int .i64), gbuo, fun x => gbu x.1.1 x.1.2.1 x.1.2.2.1 x.1.2.2.2.1 x.1.2.2.2.2.1 x.1.2.2.2.2.2.1 x.1.2.2.2.2.2.2.1 x.1.2.2.2.2.2.2.2.1 x.2.1.1 x.2.1.2.1 x.2.1.2.2.1 x.2.1.2.2.2.1⟩
theorem gbuK : EntryOk tP gbuE :=
 entry_ok tM rfl gbuL (fn := Go.Proofs.Try.f47) Go.Proofs.Try.func47 (by kernel_rfl) (root := gbuB) (by kernel_rfl) gbuc1 [] gbua (.int .i64) gbuo (fun x => gbu x.1.1 x.1.2.1 x.1.2.2.1 x.1.2.2.2.1 x.1.2.2.2.2.1 x.1.2.2.2.2.2.1 x.1.2.2.2.2.2.2.1 x.1.2.2.2.2.2.2.2.1 x.2.1.1 x.2.1.2.1 x.2.1.2.2.1 x.2.1.2.2.2.1) (fun x => by kernel_rfl) fun x => by kernel_rfl
def gbvC : Ctx := ⟨tP, 90, 0, [(1, [13, 14, 15]), (2, [16]), (3, [18]), (4, [19, 20, 21, 22, 23, 24, 25, 26, 27, 28, 29, 30, 31, 32, 33, 34, 35, 36, 37, 38, 39]), (6, [41, 42]), (7, [43]), (8, [45]), (9, [46]), (11, [51, 52]), (12, [53, 54, 55]), (13, [56]), (14, [58]), (15, [59]), (16, [60]), (18, [65, 66]), (19, [67, 68, 69]), (20, [70]), (21, [72]), (22, [73]), (23, [74]), (25, [79, 80]), (26, [81, 82, 83, 84, 85, 86, 87]), (28, [89])], [], []⟩
def gbvB : Code := (Go.Proofs.Try.f14.body).getD .skip
def gbva : Shps := (shps [(.agg (shps [(.sl Z21), (.sl (.cons (.int .i64) (.cons (.int .i64) (.cons (.int .i64) (.cons (.int .i64) (.cons .bool (.cons .bool (.cons (.int .i64) (.cons (.int .i64) Z18))))))))), (.sl (.cons (.int .i64) (.cons .bool Z25))), (.sl (.cons (.int .i64) Z11)), (.sl (.cons (.int .i64) (.cons (.int .i64) (.cons (.int .i64) (.cons (.int .i64) (.cons (.int .i64) (.cons (.int .i64) Z18))))))), (.sl (.cons (.int .i64) (.cons (.int .i64) (.cons (.int .i64) (.cons (.int .i64) Z18))))), (.sl (.cons (.sl (.cons (.int .i64) (.cons (.int .i64) Z18))) (.cons (.int .i64) Z12))), (.sl (.one (.int .i64)))]))])
def gbvo : Shps := (shps [])
def gbvO : List Entry := [gbkE, gboE, gbqE, gbuE]
theorem gbvL : ∀ e ∈ gbvO, EntryOk tP e := by
 intro e he
 simp only [gbvO, List.mem_cons, List.not_mem_nil, or_false] at he
 rcases he with rfl | rfl | rfl | rfl
 ·exact gbkK
 ·exact gboK
 ·exact gbqK
 ·exact gbuK
def gbvk0 : List (Nat × Cut) := []
theorem gbvc0 : CutsOk tP gbvC gbvB gbvk0 := CutsOk.nil
def gbv_250s : Shps := (shps [(.box (shps [(.sl Z21), (.sl (.cons (.int .i64) (.cons (.int .i64) (.cons (.int .i64) (.cons (.int .i64) (.cons .bool (.cons .bool (.cons (.int .i64) (.cons (.int .i64) Z18))))))))), (.sl (.cons (.int .i64) (.cons .bool Z25))), (.sl (.cons (.int .i64) Z11)), (.sl (.cons (.int .i64) (.cons (.int .i64) (.cons (.int .i64) (.cons (.int .i64) (.cons (.int .i64) (.cons (.int .i64) Z18))))))), (.sl (.cons (.int .i64) (.cons (.int .i64) (.cons (.int .i64) (.cons (.int .i64) Z18))))), (.sl (.cons (.sl (.cons (.int .i64) (.cons (.int .i64) Z18))) (.cons (.int .i64) Z12))), (.sl (.one (.int .i64)))])), (.sl (.cons (.int .i64) (.cons (.int .i64) (.cons (.int .i64) (.cons (.int .i64) Z18))))), (.int .i64), (.int .i64)])
def gbv_250w : List Way := [.ret (shps [(.int .i64)]) [2], .exit 0 (shps [(.box (shps [(.sl Z21), (.sl (.cons (.int .i64) (.cons (.int .i64) (.cons (.int .i64) (.cons (.int .i64) (.cons .bool (.cons .bool (.cons (.int .i64) (.cons (.int .i64) Z18))))))))), (.sl (.cons (.int .i64) (.cons .bool Z25))), (.sl (.cons (.int .i64) Z11)), (.sl (.cons (.int .i64) (.cons (.int .i64) (.cons (.int .i64) (.cons (.int .i64) (.cons (.int .i64) (.cons (.int .i64) Z18))))))), (.sl (.cons (.int .i64) (.cons (.int .i64) (.cons (.int .i64) (.cons (.int .i64) Z18))))), (.sl (.cons (.sl (.cons (.int .i64) (.cons (.int .i64) Z18))) (.cons (.int .i64) Z12))), (.sl (.one (.int .i64)))]))]) [1]]
def gbvk1 : List (Nat × Cut) := (250, loopOf gbv_250s [1, 47, 48, 49] gbv_250w gbv_250F) :: gbvk0
theorem gbvc1 : CutsOk tP gbvC gbvB gbvk1 :=
 CutsOk.loop tM rfl gbvL gbvc0 250 gbv_250s [1, 47, 48, 49] gbv_250w gbv_250F (by kernel_rfl) (by kernel_rfl) fun x => by kernel_rfl
def gbv_506s : Shps := (shps [(.box (shps [(.sl Z21), (.sl (.cons (.int .i64) (.cons (.int .i64) (.cons (.int .i64) (.cons (.int .i64) (.cons .bool (.cons .bool (.cons (.int .i64) (.cons (.int .i64) Z18))))))))), (.sl (.cons (.int .i64) (.cons .bool Z25))), (.sl (.cons (.int .i64) Z11)), (.sl (.cons (.int .i64) (.cons (.int .i64) (.cons (.int .i64) (.cons (.int .i64) (.cons (.int .i64) (.cons (.int .i64) Z18))))))), (.sl (.cons (.int .i64) (.cons (.int .i64) (.cons (.int .i64) (.cons (.int .i64) Z18))))), (.sl (.cons (.sl (.cons (.int .i64) (.cons (.int .i64) Z18))) (.cons (.int .i64) Z12))), (.sl (.one (.int .i64)))])), (.sl (.cons (.sl (.cons (.int .i64) (.cons (.int .i64) Z18))) (.cons (.int .i64) Z12))), (.int .i64), (.int .i64)])
def gbv_506w : List Way := [.ret (shps [(.int .i64)]) [2], .exit 2 (shps [(.box (shps [(.sl Z21), (.sl (.cons (.int .i64) (.cons (.int .i64) (.cons (.int .i64) (.cons (.int .i64) (.cons .bool (.cons .bool (.cons (.int .i64) (.cons (.int .i64) Z18))))))))), (.sl (.cons (.int .i64) (.cons .bool Z25))), (.sl (.cons (.int .i64) Z11)), (.sl (.cons (.int .i64) (.cons (.int .i64) (.cons (.int .i64) (.cons (.int .i64) (.cons (.int .i64) (.cons (.int .i64) Z18))))))), (.sl (.cons (.int .i64) (.cons (.int .i64) (.cons (.int .i64) (.cons (.int .i64) Z18))))), (.sl (.cons (.sl (.cons (.int .i64) (.cons (.int .i64) Z18))) (.cons (.int .i64) Z12))), (.sl (.one (.int .i64)))]))]) [1]]
def gbvk2 : List (Nat × Cut) := (506, loopOf gbv_506s [1, 61, 62, 63] gbv_506w gbv_506F) :: gbvk1
theorem gbvc2 : CutsOk tP gbvC gbvB gbvk2 :=
 CutsOk.loop tM rfl gbvL gbvc1 506 gbv_506s [1, 61, 62, 63] gbv_506w gbv_506F (by kernel_rfl) (by kernel_rfl) fun x => by kernel_rfl
def gbv_1018s : Shps := (shps [(.sl (.one (.int .i64))), (.int .i64), (.int .i64)])
def gbv_1018w : List Way := [.ret (shps [(.int .i64)]) [2], .exit 4 (shps []) []]
def gbvk3 : List (Nat × Cut) := (1018, loopOf gbv_1018s [75, 76, 77] gbv_1018w gbv_1018F) :: gbvk2
theorem gbvc3 : CutsOk tP gbvC gbvB gbvk3 :=
 CutsOk.loop tM rfl gbvL gbvc2 1018 gbv_1018s [75, 76, 77] gbv_1018w gbv_1018F (by kernel_rfl) (by kernel_rfl) fun x => by kernel_rfl
def gbvE : Entry := ⟨14, gbva, (.int .i64), gbvo, fun x => gbv x.1.1 x.1.2.1 x.1.2.2.1 x.1.2.2.2.1 x.1.2.2.2.2.1 x.1.2.2.2.2.2.1 x.1.2.2.2.2.2.2.1 x.1.2.2.2.2.2.2.2.1⟩
theorem gbvK : EntryOk tP gbvE :=
 entry_ok tM rfl gbvL (fn := Go.Proofs.Try.f14) Go.Proofs.Try.func14 (by kernel_rfl) (root := gbvB) (by kernel_rfl) gbvc3 [] gbva (.int .i64) gbvo (fun x => gbv x.1.1 x.1.2.1 x.1.2.2.1 x.1.2.2.2.1 x.1.2.2.2.2.1 x.1.2.2.2.2.2.1 x.1.2.2.2.2.2.2.1 x.1.2.2.2.2.2.2.2.1) (fun x => by kernel_rfl) fun x => by kernel_rfl
def gbwC : Ctx := ⟨tP, 2, 0, [(1, [1])], [], []⟩
def gbwB : Code := (Go.Proofs.Try.f55.body).getD .skip
def gbwa : Shps := (shps [])
def gbwo : Shps := (shps [])
def gbwO : List Entry := []
theorem gbwL : ∀ e ∈ gbwO, EntryOk tP e := by
 intro e he; cases he
def gbwk0 : List (Nat × Cut) := []
theorem gbwc0 : CutsOk tP gbwC gbwB gbwk0 := CutsOk.nil
def gbwE : Entry := ⟨55, gbwa, (.agg Z19), gbwo, fun x => gbw⟩
theorem gbwK : EntryOk tP gbwE :=
 entry_ok tM rfl gbwL (fn := Go.Proofs.Try.f55) Go.Proofs.Try.func55 (by kernel_rfl) (root := gbwB) (by kernel_rfl) gbwc0 [] gbwa (.agg Z19) gbwo (fun x => gbw) (fun x => by kernel_rfl) fun x => by kernel_rfl
def gbxC : Ctx := ⟨tP, 13, 0, [(1, [3, 4, 5, 6, 7, 8, 9, 10, 11, 12])], [], []⟩
def gbxB : Code := (Go.Proofs.Try.f92.body).getD .skip
def gbxa : Shps := (shps [(.int .i64)])
def gbxo : Shps := (shps [])
def gbxO : List Entry := []
theorem gbxL : ∀ e ∈ gbxO, EntryOk tP e := by
 intro e he; cases he
def gbxk0 : List (Nat × Cut) := []
theorem gbxc0 : CutsOk tP gbxC gbxB gbxk0 := CutsOk.nil
def gbxE : Entry := ⟨92, gbxa, .bool, gbxo, fun x => gbx x.1⟩
theorem gbxK : EntryOk tP gbxE :=
 entry_ok tM rfl gbxL (fn := Go.Proofs.Try.f92) Go.Proofs.Try.func92 (by kernel_rfl) (root := gbxB) (by kernel_rfl) gbxc0 [] gbxa .bool gbxo (fun x => gbx x.1) (fun x => by kernel_rfl) fun x => by kernel_rfl
def gbyC : Ctx := ⟨tP, 83, 0, [(1, [10]), (2, [11, 12, 13, 14, 15, 16, 17, 18, 19, 20, 21, 22, 23, 24, 25, 26, 27, 28, 29, 30, 31, 32, 33, 34, 35, 36, 37, 38]), (3, [40]), (4, [41, 42]), (5, [44, 45]), (6, [46, 47, 48, 49, 50, 51, 52, 53, 54]), (7, [55, 56, 57, 58, 59, 60, 61, 62, 63, 64, 65]), (8, [66, 67, 68, 69, 70, 71, 72]), (9, [74, 75, 76, 77, 78, 79, 80, 81]), (10, [82])], [], []⟩
def gbyB : Code := (Go.Proofs.Try.f56.body).getD .skip
def gbya : Shps := (shps [(.agg Z2), (.agg Z9), (.int .i64)])
def gbyo : Shps := (shps [])
def gbyO : List Entry := [gbwE, gbmE, gbxE]
theorem gbyL : ∀ e ∈ gbyO, EntryOk tP e := by
 intro e he
 simp only [gbyO, List.mem_cons, List.not_mem_nil, or_false] at he
 rcases he with rfl | rfl | rfl
 ·exact gbwK
 ·exact gbmK
 ·exact gbxK
def gbyk0 : List (Nat × Cut) := []
theorem gbyc0 : CutsOk tP gbyC gbyB gbyk0 := CutsOk.nil
def gbyE : Entry := ⟨56, gbya, (.agg Z19), gbyo, fun x => gby x.1.1 x.1.2.1 x.1.2.2.1 x.1.2.2.2.1 x.1.2.2.2.2.1 x.1.2.2.2.2.2.1 x.1.2.2.2.2.2.2.1 x.1.2.2.2.2.2.2.2.1 x.2.1.1 x.2.1.2.1 x.2.1.2.2.1 x.2.1.2.2.2.1 x.2.2.1⟩
theorem gbyK : EntryOk tP gbyE :=
 entry_ok tM rfl gbyL (fn := Go.Proofs.Try.f56) Go.Proofs.Try.func56 (by kernel_rfl) (root := gbyB) (by kernel_rfl) gbyc0 [] gbya (.agg Z19) gbyo (fun x => gby x.1.1 x.1.2.1 x.1.2.2.1 x.1.2.2.2.1 x.1.2.2.2.2.1 x.1.2.2.2.2.2.1 x.1.2.2.2.2.2.2.1 x.1.2.2.2.2.2.2.2.1 x.2.1.1 x.2.1.2.1 x.2.1.2.2.1 x.2.1.2.2.2.1 x.2.2.1) (fun x => by kernel_rfl) fun x => by kernel_rfl
def gbzC : Ctx := ⟨tP, 42, 0, [(1, [9, 10, 11, 12, 13, 14, 15, 16, 17, 18, 19, 20, 21, 22, 23, 24, 25, 26, 27, 28]), (2, [30]), (3, [31, 32, 33, 34, 35, 36, 37, 38, 39, 40, 41])], [], []⟩
def gbzB : Code := (Go.Proofs.Try.f20.body).getD .skip
def gbza : Shps := (shps [(.agg (shps [(.sl Z21), (.sl (.cons (.int .i64) (.cons (.int .i64) (.cons (.int .i64) (.cons (.int .i64) (.cons .bool (.cons .bool (.cons (.int .i64) (.cons (.int .i64) Z18))))))))), (.sl (.cons (.int .i64) (.cons .bool Z25))), (.sl (.cons (.int .i64) Z11)), (.sl (.cons (.int .i64) (.cons (.int .i64) (.cons (.int .i64) (.cons (.int .i64) (.cons (.int .i64) (.cons (.int .i64) Z18))))))), (.sl (.cons (.int .i64) (.cons (.int .i64) (.cons (.int .i64) (.cons (.int .i64) Z18))))), (.sl (.cons (.sl (.cons (.int .i64) (.cons (.int .i64) Z18))) (.cons (.int .i64) Z12))), (.sl (.one (.int .i64)))])), (.sl (.cons (.int .i64) (.cons (.int .i64) Z18))), (.int .i64), (.int .i64)])
def gbzo : Shps := (shps [])
def gbzO : List Entry := [gbnE, gbwE, gbyE]
theorem gbzL : ∀ e ∈ gbzO, EntryOk tP e := by
 intro e he
 simp only [gbzO, List.mem_cons, List.not_mem_nil, or_false] at he
 rcases he with rfl | rfl | rfl
 ·exact gbnK
 ·exact gbwK
 ·exact gbyK
def gbzk0 : List (Nat × Cut) := []
theorem gbzc0 : CutsOk tP gbzC gbzB gbzk0 := CutsOk.nil
def gbzE : Entry := ⟨20, gbza, (.agg Z19), gbzo, fun x => gbz x.1.1 x.1.2.1 x.1.2.2.1 x.1.2.2.2.1 x.1.2.2.2.2.1 x.1.2.2.2.2.2.1 x.1.2.2.2.2.2.2.1 x.1.2.2.2.2.2.2.2.1 x.2.1 x.2.2.1 x.2.2.2.1⟩
theorem gbzK : EntryOk tP gbzE :=
 entry_ok tM rfl gbzL (fn := Go.Proofs.Try.f20) Go.Proofs.Try.func20 (by kernel_rfl) (root := gbzB) (by kernel_rfl) gbzc0 [] gbza (.agg Z19) gbzo (fun x => gbz x.1.1 x.1.2.1 x.1.2.2.1 x.1.2.2.2.1 x.1.2.2.2.2.1 x.1.2.2.2.2.2.1 x.1.2.2.2.2.2.2.1 x.1.2.2.2.2.2.2.2.1 x.2.1 x.2.2.1 x.2.2.2.1) (fun x => by kernel_rfl) fun x => by kernel_rfl
def gcaC : Ctx := ⟨tP, 21, 0, [(1, [6, 7, 8, 9, 10]), (3, [12, 13, 14, 15]), (5, [17, 18, 19, 20])], [], []⟩
def gcaB : Code := (Go.Proofs.Try.f60.body).getD .skip
def gcaa : Shps := (shps [(.agg Z19), (.int .i64)])
def gcao : Shps := (shps [])
def gcaO : List Entry := []
theorem gcaL : ∀ e ∈ gcaO, EntryOk tP e := by
 intro e he; cases he
def gcak0 : List (Nat × Cut) := []
theorem gcac0 : CutsOk tP gcaC gcaB gcak0 := CutsOk.nil
def gcaE : Entry := ⟨60, gcaa, (.int .i64), gcao, fun x => gca x.1.1 x.1.2.1 x.2.1⟩
theorem gcaK : EntryOk tP gcaE :=
 entry_ok tM rfl gcaL (fn := Go.Proofs.Try.f60) Go.Proofs.Try.func60 (by kernel_rfl) (root := gcaB) (by kernel_rfl) gcac0 [] gcaa (.int .i64) gcao (fun x => gca x.1.1 x.1.2.1 x.2.1) (fun x => by kernel_rfl) fun x => by kernel_rfl
def gcbC : Ctx := ⟨tP, 97, 0, [(1, [11, 12]), (2, [13]), (3, [15, 16]), (4, [17, 18, 19, 20, 21, 22, 23, 24, 25, 26, 27]), (5, [29]), (6, [30, 31, 32, 33, 34, 35, 36, 37, 38, 39, 40, 41, 42, 43, 44, 45, 46, 47, 48, 49, 50, 51, 52, 53, 54, 55, 56, 57, 58]), (7, [60]), (8, [61, 62]), (13, [78, 79, 80, 81, 82]), (14, [83, 84]), (15, [86, 87, 88]), (16, [90, 91, 92, 93, 94]), (17, [95]), (9, [63, 64]), (10, [66, 67]), (11, [68, 69, 70, 71, 72, 73]), (12, [75, 76]), (18, [96])], [], []⟩
def gcbB : Code := (Go.Proofs.Try.f58.body).getD .skip
def gcba : Shps := (shps [(.agg Z13), (.agg Z16), (.agg Z19), (.int .i64)])
def gcbo : Shps := (shps [])
def gcbO : List Entry := [gbpE, gcaE]
theorem gcbL : ∀ e ∈ gcbO, EntryOk tP e := by
 intro e he
 simp only [gcbO, List.mem_cons, List.not_mem_nil, or_false] at he
 rcases he with rfl | rfl
 ·exact gbpK
 ·exact gcaK
def gcbk0 : List (Nat × Cut) := []
theorem gcbc0 : CutsOk tP gcbC gcbB gcbk0 := CutsOk.nil
def gcb_32383s : Shps := (shps [(.int .i64), (.box Z13), (.box Z16), (.box Z16)])
def gcb_32383w : List Way := [.norm (shps [(.box Z16), (.box Z16)]) [5, 8]]
def gcbk1 : List (Nat × Cut) := (32383, cutOf gcb_32383s [3, 4, 5, 8] gcb_32383w fun x => gcb_32383 x.1 x.2.1.1 x.2.1.2.1 x.2.1.2.2.1 x.2.2.1.1 x.2.2.1.2.1 x.2.2.1.2.2.1 x.2.2.2.1.1 x.2.2.2.1.2.1 x.2.2.2.1.2.2.1) :: gcbk0
theorem gcbc1 : CutsOk tP gcbC gcbB gcbk1 :=
 CutsOk.cut tM rfl gcbL gcbc0 32383 gcb_32383s [3, 4, 5, 8] gcb_32383w (fun x => gcb_32383 x.1 x.2.1.1 x.2.1.2.1 x.2.1.2.2.1 x.2.2.1.1 x.2.2.1.2.1 x.2.2.1.2.2.1 x.2.2.2.1.1 x.2.2.2.1.2.1 x.2.2.2.1.2.2.1) (by kernel_rfl) fun x => by kernel_rfl
def gcbE : Entry := ⟨58, gcba, (.tup (shps [(.agg Z16), (.int .i64)])), gcbo, fun x => gcb x.1.1 x.1.2.1 x.1.2.2.1 x.2.1.1 x.2.1.2.1 x.2.1.2.2.1 x.2.2.1.1 x.2.2.1.2.1 x.2.2.2.1⟩
theorem gcbK : EntryOk tP gcbE :=
 entry_ok tM rfl gcbL (fn := Go.Proofs.Try.f58) Go.Proofs.Try.func58 (by kernel_rfl) (root := gcbB) (by kernel_rfl) gcbc1 [] gcba (.tup (shps [(.agg Z16), (.int .i64)])) gcbo (fun x => gcb x.1.1 x.1.2.1 x.1.2.2.1 x.2.1.1 x.2.1.2.1 x.2.1.2.2.1 x.2.2.1.1 x.2.2.1.2.1 x.2.2.2.1) (fun x => by kernel_rfl) fun x => by kernel_rfl
def gccC : Ctx := ⟨tP, 18, 0, [(1, [8, 9, 10]), (3, [12, 13, 14, 15, 16, 17])], [], []⟩
def gccB : Code := (Go.Proofs.Try.f59.body).getD .skip
def gcca : Shps := (shps [(.agg Z3), (.agg Z16), (.agg Z19)])
def gcco : Shps := (shps [])
def gccO : List Entry := [gcaE]
theorem gccL : ∀ e ∈ gccO, EntryOk tP e := by
 intro e he
 simp only [gccO, List.mem_cons, List.not_mem_nil, or_false] at he
 rcases he with rfl
 ·exact gcaK
def gcck0 : List (Nat × Cut) := []
theorem gccc0 : CutsOk tP gccC gccB gcck0 := CutsOk.nil
def gccE : Entry := ⟨59, gcca, (.int .i64), gcco, fun x => gcc x.1.1 x.1.2.1 x.1.2.2.1 x.1.2.2.2.1 x.1.2.2.2.2.1 x.1.2.2.2.2.2.1 x.2.1.1 x.2.1.2.1 x.2.1.2.2.1 x.2.2.1.1 x.2.2.1.2.1⟩
theorem gccK : EntryOk tP gccE :=
 entry_ok tM rfl gccL (fn := Go.Proofs.Try.f59) Go.Proofs.Try.func59 (by kernel_rfl) (root := gccB) (by kernel_rfl) gccc0 [] gcca (.int .i64) gcco (fun x => gcc x.1.1 x.1.2.1 x.1.2.2.1 x.1.2.2.2.1 x.1.2.2.2.2.1 x.1.2.2.2.2.2.1 x.2.1.1 x.2.1.2.1 x.2.1.2.2.1 x.2.2.1.1 x.2.2.1.2.1) (fun x => by kernel_rfl) fun x => by kernel_rfl
def gcdC : Ctx := ⟨tP, 27, 0, [(1, [4, 5, 6, 7, 8]), (3, [10, 11, 12, 13, 14, 15, 16, 17]), (5, [19, 20, 21, 22, 23, 24, 25, 26])], [], []⟩
def gcdB : Code := (Go.Proofs.Try.f61.body).getD .skip
def gcda : Shps := (shps [(.agg Z19)])
def gcdo : Shps := (shps [])
def gcdO : List Entry := []
theorem gcdL : ∀ e ∈ gcdO, EntryOk tP e := by
 intro e he; cases he
def gcdk0 : List (Nat × Cut) := []
theorem gcdc0 : CutsOk tP gcdC gcdB gcdk0 := CutsOk.nil
def gcdE : Entry := ⟨61, gcda, (.int .i64), gcdo, fun x => gcd x.1.1 x.1.2.1⟩
theorem gcdK : EntryOk tP gcdE :=
 entry_ok tM rfl gcdL (fn := Go.Proofs.Try.f61) Go.Proofs.Try.func61 (by kernel_rfl) (root := gcdB) (by kernel_rfl) gcdc0 [] gcda (.int .i64) gcdo (fun x => gcd x.1.1 x.1.2.1) (fun x => by kernel_rfl) fun x => by kernel_rfl
def gceC : Ctx := ⟨tP, 39, 0, [(1, [6, 7, 8, 9, 10]), (3, [12, 13, 14, 15, 16, 17, 18, 19, 20, 21, 22, 23, 24, 25, 26]), (5, [28, 29, 30, 31, 32, 33, 34, 35, 36, 37, 38])], [], []⟩
def gceB : Code := (Go.Proofs.Try.f93.body).getD .skip
def gcea : Shps := (shps [(.agg Z19), (.int .i64)])
def gceo : Shps := (shps [])
def gceO : List Entry := []
theorem gceL : ∀ e ∈ gceO, EntryOk tP e := by
 intro e he; cases he
def gcek0 : List (Nat × Cut) := []
theorem gcec0 : CutsOk tP gceC gceB gcek0 := CutsOk.nil
def gceE : Entry := ⟨93, gcea, (.int .i64), gceo, fun x => gce x.1.1 x.1.2.1 x.2.1⟩
theorem gceK : EntryOk tP gceE :=
 entry_ok tM rfl gceL (fn := Go.Proofs.Try.f93) Go.Proofs.Try.func93 (by kernel_rfl) (root := gceB) (by kernel_rfl) gcec0 [] gcea (.int .i64) gceo (fun x => gce x.1.1 x.1.2.1 x.2.1) (fun x => by kernel_rfl) fun x => by kernel_rfl
def gcfC : Ctx := ⟨tP, 41, 0, [(1, [8, 9, 10]), (4, [15, 16, 17]), (5, [18, 19, 20, 21, 22, 23, 24, 25, 26]), (6, [28, 29, 30, 31, 32, 33, 34, 35, 36, 37, 38]), (7, [39]), (8, [40])], [], []⟩
def gcfB : Code := (Go.Proofs.Try.f62.body).getD .skip
def gcfa : Shps := (shps [(.sl Z18), (.sl Z18)])
def gcfo : Shps := (shps [])
def gcfO : List Entry := [gceE]
theorem gcfL : ∀ e ∈ gcfO, EntryOk tP e := by
 intro e he
 simp only [gcfO, List.mem_cons, List.not_mem_nil, or_false] at he
 rcases he with rfl
 ·exact gceK
def gcfk0 : List (Nat × Cut) := []
theorem gcfc0 : CutsOk tP gcfC gcfB gcfk0 := CutsOk.nil
def gcf_58s : Shps := (shps [(.sl Z18), (.ow (.one (.int .i64))), (.sl Z18), (.int .i64), (.int .i64)])
def gcf_58w : List Way := [.exit 0 Z20 [5]]
def gcfk1 : List (Nat × Cut) := (58, loopOf gcf_58s [0, 5, 11, 12, 13] gcf_58w gcf_58F) :: gcfk0
theorem gcfc1 : CutsOk tP gcfC gcfB gcfk1 :=
 CutsOk.loop tM rfl gcfL gcfc0 58 gcf_58s [0, 5, 11, 12, 13] gcf_58w gcf_58F (by kernel_rfl) (by kernel_rfl) fun x => by kernel_rfl
def gcfE : Entry := ⟨62, gcfa, (.ow (.one (.int .i64))), gcfo, fun x => gcf x.1 x.2.1⟩
theorem gcfK : EntryOk tP gcfE :=
 entry_ok tM rfl gcfL (fn := Go.Proofs.Try.f62) Go.Proofs.Try.func62 (by kernel_rfl) (root := gcfB) (by kernel_rfl) gcfc1 [] gcfa (.ow (.one (.int .i64))) gcfo (fun x => gcf x.1 x.2.1) (fun x => by kernel_rfl) fun x => by kernel_rfl
def gcgC : Ctx := ⟨tP, 152, 0, [(1, [21, 22]), (2, [23]), (3, [25]), (4, [26, 27, 28, 29, 30, 31, 32, 33, 34, 35, 36, 37, 38, 39, 40, 41, 42, 43, 44, 45, 46, 47, 48]), (6, [50, 51, 52, 53, 54]), (8, [56, 57, 58, 59, 60]), (9, [61]), (11, [66, 67, 68]), (12, [69, 70, 71, 72, 73, 74]), (13, [75]), (14, [78]), (15, [79, 80, 81, 82, 83, 84, 85, 86, 87, 88, 89, 90]), (16, [91]), (17, [93]), (18, [94, 95, 96, 97, 98, 99, 100, 101, 102, 103, 104]), (19, [106]), (20, [107, 108, 109, 110, 111, 112, 113, 114]), (21, [116]), (22, [117, 118, 119, 120, 121]), (23, [123]), (24, [124, 125, 126]), (25, [127, 128]), (26, [130, 131, 132]), (27, [134]), (28, [135, 136, 137, 138, 139, 140, 141, 142, 143, 144, 145, 146, 147, 148]), (29, [149]), (30, [150, 151])], [], []⟩
def gcgB : Code := (Go.Proofs.Try.f22.body).getD .skip
def gcga : Shps := (shps [(.agg (shps [(.sl Z21), (.sl (.cons (.int .i64) (.cons (.int .i64) (.cons (.int .i64) (.cons (.int .i64) (.cons .bool (.cons .bool (.cons (.int .i64) (.cons (.int .i64) Z18))))))))), (.sl (.cons (.int .i64) (.cons .bool Z25))), (.sl (.cons (.int .i64) Z11)), (.sl (.cons (.int .i64) (.cons (.int .i64) (.cons (.int .i64) (.cons (.int .i64) (.cons (.int .i64) (.cons (.int .i64) Z18))))))), (.sl (.cons (.int .i64) (.cons (.int .i64) (.cons (.int .i64) (.cons (.int .i64) Z18))))), (.sl (.cons (.sl (.cons (.int .i64) (.cons (.int .i64) Z18))) (.cons (.int .i64) Z12))), (.sl (.one (.int .i64)))])), (.sl (.cons (.int .i64) (.cons (.int .i64) Z18))), (.sl (.cons .bool Z18)), (.sl Z18), (.int .i64)])
def gcgo : Shps := (shps [])
def gcgO : List Entry := [gbvE, gbzE, gcbE, gccE, gcaE, gcdE, gbwE, gcfE]
theorem gcgL : ∀ e ∈ gcgO, EntryOk tP e := by
 intro e he
 simp only [gcgO, List.mem_cons, List.not_mem_nil, or_false] at he
 rcases he with rfl | rfl | rfl | rfl | rfl | rfl | rfl | rfl
 ·exact gbvK
 ·exact gbzK
 ·exact gcbK
 ·exact gccK
 ·exact gcaK
 ·exact gcdK
 ·exact gbwK
 ·exact gcfK
def gcgk0 : List (Nat × Cut) := []
theorem gcgc0 : CutsOk tP gcgC gcgB gcgk0 := CutsOk.nil
def gcg_506s : Shps := (shps [(.sl (.cons (.int .i64) (.cons (.int .i64) Z18))), (.sl (.cons .bool Z18)), (.sl Z18), (.int .i64), (.box (shps [(.sl Z21), (.sl (.cons (.int .i64) (.cons (.int .i64) (.cons (.int .i64) (.cons (.int .i64) (.cons .bool (.cons .bool (.cons (.int .i64) (.cons (.int .i64) Z18))))))))), (.sl (.cons (.int .i64) (.cons .bool Z25))), (.sl (.cons (.int .i64) Z11)), (.sl (.cons (.int .i64) (.cons (.int .i64) (.cons (.int .i64) (.cons (.int .i64) (.cons (.int .i64) (.cons (.int .i64) Z18))))))), (.sl (.cons (.int .i64) (.cons (.int .i64) (.cons (.int .i64) (.cons (.int .i64) Z18))))), (.sl (.cons (.sl (.cons (.int .i64) (.cons (.int .i64) Z18))) (.cons (.int .i64) Z12))), (.sl (.one (.int .i64)))])), (.ow (.one (.int .i64))), (.ow (.cons .bool Z18)), (.sl (.cons (.int .i64) (.cons (.int .i64) (.cons (.int .i64) (.cons (.int .i64) Z18))))), (.int .i64), (.int .i64)])
def gcg_506w : List Way := [.ret (shps [(.ow (.one (.int .i64))), (.ow (.cons .bool Z18)), (.int .i64)]) [10, 11, 12], .exit 0 (shps [(.ow (.one (.int .i64))), (.ow (.cons .bool Z18))]) [14, 15]]
def gcgk1 : List (Nat × Cut) := (506, loopOf gcg_506s [1, 2, 3, 4, 5, 14, 15, 62, 63, 64] gcg_506w gcg_506F) :: gcgk0
theorem gcgc1 : CutsOk tP gcgC gcgB gcgk1 :=
 CutsOk.loop tM rfl gcgL gcgc0 506 gcg_506s [1, 2, 3, 4, 5, 14, 15, 62, 63, 64] gcg_506w gcg_506F (by kernel_rfl) (by kernel_rfl) fun x => by kernel_rfl
def gcgE : Entry := ⟨22, gcga, (.tup (shps [(.ow (.one (.int .i64))), (.ow (.cons .bool Z18)), (.int .i64)])), gcgo, fun x => gcg x.1.1 x.1.2.1 x.1.2.2.1 x.1.2.2.2.1 x.1.2.2.2.2.1 x.1.2.2.2.2.2.1 x.1.2.2.2.2.2.2.1 x.1.2.2.2.2.2.2.2.1 x.2.1 x.2.2.1 x.2.2.2.1 x.2.2.2.2.1⟩
theorem gcgK : EntryOk tP gcgE :=
 entry_ok tM rfl gcgL (fn := Go.Proofs.Try.f22) Go.Proofs.Try.func22 (by kernel_rfl) (root := gcgB) (by kernel_rfl) gcgc1 [] gcga (.tup (shps [(.ow (.one (.int .i64))), (.ow (.cons .bool Z18)), (.int .i64)])) gcgo (fun x => gcg x.1.1 x.1.2.1 x.1.2.2.1 x.1.2.2.2.1 x.1.2.2.2.2.1 x.1.2.2.2.2.2.1 x.1.2.2.2.2.2.2.1 x.1.2.2.2.2.2.2.2.1 x.2.1 x.2.2.1 x.2.2.2.1 x.2.2.2.2.1) (fun x => by kernel_rfl) fun x => by kernel_rfl
def gchC : Ctx := ⟨tP, 10, 0, [(1, [3, 4, 5, 6, 7, 8, 9])], [], []⟩
def gchB : Code := (Go.Proofs.Try.f11.body).getD .skip
def gcha : Shps := (shps [.nsl])
def gcho : Shps := (shps [])
def gchO : List Entry := []
theorem gchL : ∀ e ∈ gchO, EntryOk tP e := by
 intro e he; cases he
def gchk0 : List (Nat × Cut) := []
theorem gchc0 : CutsOk tP gchC gchB gchk0 := CutsOk.nil
def gchE : Entry := ⟨11, gcha, (.box Z15), gcho, fun x => gch⟩
theorem gchK : EntryOk tP gchE :=
 entry_ok tM rfl gchL (fn := Go.Proofs.Try.f11) Go.Proofs.Try.func11 (by kernel_rfl) (root := gchB) (by kernel_rfl) gchc0 [] gcha (.box Z15) gcho (fun x => gch) (fun x => by kernel_rfl) fun x => by kernel_rfl
def gciC : Ctx := ⟨tP, 77, 1, [(1, [6, 7, 8, 9, 10, 11, 12, 13, 14, 15, 16, 17, 18]), (3, [20, 21, 22, 23, 24, 25, 26]), (4, [27, 28, 29, 30, 31, 32, 33, 34, 35, 36, 37, 38]), (5, [39, 40, 41, 42, 43, 44, 45, 46, 47, 48, 49, 50, 51]), (6, [53, 54, 55, 56, 57, 58, 59, 60, 61, 62, 63, 64, 65, 66]), (7, [67, 68, 69, 70, 71, 72, 73]), (8, [74, 75, 76])], [], []⟩
def gciB : Code := (Go.Proofs.Try.f37.body).getD .skip
def gcia : Shps := (shps [(.box Z15), (.int .i64)])
def gcio : Shps := (shps [(.box Z15)])
def gciO : List Entry := []
theorem gciL : ∀ e ∈ gciO, EntryOk tP e := by
 intro e he; cases he
def gcik0 : List (Nat × Cut) := []
theorem gcic0 : CutsOk tP gciC gciB gcik0 := CutsOk.nil
def gci_63s : Shps := (shps [(.box Z15), (.int .i64), (.int .i64)])
def gci_63w : List Way := [.ret (shps [(.box Z15), (.int .i64)]) [0, 4]]
def gcik1 : List (Nat × Cut) := (63, cutOf gci_63s [0, 1, 5] gci_63w fun x => gci_63 x.1.1 x.1.2.1 x.2.1 x.2.2.1) :: gcik0
theorem gcic1 : CutsOk tP gciC gciB gcik1 :=
 CutsOk.cut tM rfl gciL gcic0 63 gci_63s [0, 1, 5] gci_63w (fun x => gci_63 x.1.1 x.1.2.1 x.2.1 x.2.2.1) (by kernel_rfl) fun x => by kernel_rfl
def gciE : Entry := ⟨37, gcia, (.int .i64), gcio, fun x => gci x.1.1 x.1.2.1 x.2.1⟩
theorem gciK : EntryOk tP gciE :=
 entry_ok tM rfl gciL (fn := Go.Proofs.Try.f37) Go.Proofs.Try.func37 (by kernel_rfl) (root := gciB) (by kernel_rfl) gcic1 [] gcia (.int .i64) gcio (fun x => gci x.1.1 x.1.2.1 x.2.1) (fun x => by kernel_rfl) fun x => by kernel_rfl
def gcjC : Ctx := ⟨tP, 15, 1, [(1, [7, 8, 9, 10, 11, 12, 13, 14])], [], []⟩
def gcjB : Code := (Go.Proofs.Try.f28.body).getD .skip
def gcja : Shps := (shps [(.box Z15), (.int .i64), (.int .i64)])
def gcjo : Shps := (shps [(.box Z15)])
def gcjO : List Entry := [gciE]
theorem gcjL : ∀ e ∈ gcjO, EntryOk tP e := by
 intro e he
 simp only [gcjO, List.mem_cons, List.not_mem_nil, or_false] at he
 rcases he with rfl
 ·exact gciK
def gcjk0 : List (Nat × Cut) := []
theorem gcjc0 : CutsOk tP gcjC gcjB gcjk0 := CutsOk.nil
def gcjE : Entry := ⟨28, gcja, (.int .i64), gcjo, fun x => gcj x.1.1 x.1.2.1 x.2.1 x.2.2.1⟩
theorem gcjK : EntryOk tP gcjE :=
 entry_ok tM rfl gcjL (fn := Go.Proofs.Try.f28) Go.Proofs.Try.func28 (by kernel_rfl) (root := gcjB) (by kernel_rfl) gcjc0 [] gcja (.int .i64) gcjo (fun x => gcj x.1.1 x.1.2.1 x.2.1 x.2.2.1) (fun x => by kernel_rfl) fun x => by kernel_rfl
def gckC : Ctx := ⟨tP, 68, 1, [(1, [8, 9, 10, 11, 12, 13, 14, 15, 16, 17]), (2, [18, 19, 20, 21, 22, 23, 24, 25, 26, 27, 28, 29, 30]), (3, [31, 32, 33, 34, 35, 36, 37, 38]), (4, [39, 40, 41, 42]), (5, [43, 44]), (6, [45]), (8, [49, 50, 51, 52, 53, 54, 55, 56, 57, 58]), (9, [59, 60, 61, 62, 63, 64, 65]), (7, [47, 48]), (10, [66, 67])], [], []⟩
def gckB : Code := (Go.Proofs.Try.f39.body).getD .skip
def gcka : Shps := (shps [(.box Z15)])
def gcko : Shps := (shps [(.box Z15)])
def gckO : List Entry := [gcjE, gciE]
theorem gckL : ∀ e ∈ gckO, EntryOk tP e := by
 intro e he
 simp only [gckO, List.mem_cons, List.not_mem_nil, or_false] at he
 rcases he with rfl | rfl
 ·exact gcjK
 ·exact gciK
def gckk0 : List (Nat × Cut) := []
theorem gckc0 : CutsOk tP gckC gckB gckk0 := CutsOk.nil
def gck_506s : Shps := (shps [(.box Z15), (.box (shps [(.ow Z21), (.ow (.cons (.int .i64) (.cons (.int .i64) (.cons (.int .i64) (.cons (.int .i64) (.cons .bool (.cons .bool (.cons (.int .i64) (.cons (.int .i64) Z18))))))))), (.ow (.cons (.int .i64) (.cons .bool Z25))), (.ow (.cons (.int .i64) Z11)), (.ow (.cons (.int .i64) (.cons (.int .i64) (.cons (.int .i64) (.cons (.int .i64) (.cons (.int .i64) (.cons (.int .i64) Z18))))))), (.ow (.cons (.int .i64) (.cons (.int .i64) (.cons (.int .i64) (.cons (.int .i64) Z18))))), (.ow (.cons (.sl (.cons (.int .i64) (.cons (.int .i64) Z18))) (.cons (.int .i64) Z12))), (.ow (.one (.int .i64)))])), (.box (shps [(.ow (.cons (.int .i64) (.cons (.int .i64) (.cons (.int .i64) Z23)))), (.ow (.one (.int .i64))), (.int .i64)])), (.box (shps [(.ow Z21), (.ow (.cons (.int .i64) (.cons (.int .i64) (.cons (.int .i64) (.cons (.int .i64) (.cons .bool (.cons .bool (.cons (.int .i64) (.cons (.int .i64) Z18))))))))), (.ow (.cons (.int .i64) (.cons .bool Z25))), (.ow (.cons (.int .i64) Z11)), (.ow (.cons (.int .i64) (.cons (.int .i64) (.cons (.int .i64) (.cons (.int .i64) (.cons (.int .i64) (.cons (.int .i64) Z18))))))), (.ow (.cons (.int .i64) (.cons (.int .i64) (.cons (.int .i64) (.cons (.int .i64) Z18))))), (.ow (.cons (.sl (.cons (.int .i64) (.cons (.int .i64) Z18))) (.cons (.int .i64) Z12))), (.ow (.one (.int .i64)))])), (.box (shps [(.ow (.cons (.int .i64) (.cons (.int .i64) (.cons (.int .i64) Z23)))), (.ow (.one (.int .i64))), (.int .i64)])), (.int .i64)])
def gck_506w : List Way := [.exit 0 (shps [(.box Z15), (.box (shps [(.ow Z21), (.ow (.cons (.int .i64) (.cons (.int .i64) (.cons (.int .i64) (.cons (.int .i64) (.cons .bool (.cons .bool (.cons (.int .i64) (.cons (.int .i64) Z18))))))))), (.ow (.cons (.int .i64) (.cons .bool Z25))), (.ow (.cons (.int .i64) Z11)), (.ow (.cons (.int .i64) (.cons (.int .i64) (.cons (.int .i64) (.cons (.int .i64) (.cons (.int .i64) (.cons (.int .i64) Z18))))))), (.ow (.cons (.int .i64) (.cons (.int .i64) (.cons (.int .i64) (.cons (.int .i64) Z18))))), (.ow (.cons (.sl (.cons (.int .i64) (.cons (.int .i64) Z18))) (.cons (.int .i64) Z12))), (.ow (.one (.int .i64)))])), (.box (shps [(.ow (.cons (.int .i64) (.cons (.int .i64) (.cons (.int .i64) Z23)))), (.ow (.one (.int .i64))), (.int .i64)])), (.box (shps [(.ow Z21), (.ow (.cons (.int .i64) (.cons (.int .i64) (.cons (.int .i64) (.cons (.int .i64) (.cons .bool (.cons .bool (.cons (.int .i64) (.cons (.int .i64) Z18))))))))), (.ow (.cons (.int .i64) (.cons .bool Z25))), (.ow (.cons (.int .i64) Z11)), (.ow (.cons (.int .i64) (.cons (.int .i64) (.cons (.int .i64) (.cons (.int .i64) (.cons (.int .i64) (.cons (.int .i64) Z18))))))), (.ow (.cons (.int .i64) (.cons (.int .i64) (.cons (.int .i64) (.cons (.int .i64) Z18))))), (.ow (.cons (.sl (.cons (.int .i64) (.cons (.int .i64) Z18))) (.cons (.int .i64) Z12))), (.ow (.one (.int .i64)))])), (.box (shps [(.ow (.cons (.int .i64) (.cons (.int .i64) (.cons (.int .i64) Z23)))), (.ow (.one (.int .i64))), (.int .i64)]))]) [0, 2, 3, 5, 6]]
def gckk1 : List (Nat × Cut) := (506, loopOf gck_506s [0, 2, 3, 5, 6, 7] gck_506w gck_506F) :: gckk0
theorem gckc1 : CutsOk tP gckC gckB gckk1 :=
 CutsOk.loop tM rfl gckL gckc0 506 gck_506s [0, 2, 3, 5, 6, 7] gck_506w gck_506F (by kernel_rfl) (by kernel_rfl) fun x => by kernel_rfl
def gckE : Entry := ⟨39, gcka, (.tup (shps [(.agg (shps [(.ow Z21), (.ow (.cons (.int .i64) (.cons (.int .i64) (.cons (.int .i64) (.cons (.int .i64) (.cons .bool (.cons .bool (.cons (.int .i64) (.cons (.int .i64) Z18))))))))), (.ow (.cons (.int .i64) (.cons .bool Z25))), (.ow (.cons (.int .i64) Z11)), (.ow (.cons (.int .i64) (.cons (.int .i64) (.cons (.int .i64) (.cons (.int .i64) (.cons (.int .i64) (.cons (.int .i64) Z18))))))), (.ow (.cons (.int .i64) (.cons (.int .i64) (.cons (.int .i64) (.cons (.int .i64) Z18))))), (.ow (.cons (.sl (.cons (.int .i64) (.cons (.int .i64) Z18))) (.cons (.int .i64) Z12))), (.ow (.one (.int .i64)))])), (.agg (shps [(.ow (.cons (.int .i64) (.cons (.int .i64) (.cons (.int .i64) Z23)))), (.ow (.one (.int .i64))), (.int .i64)]))])), gcko, fun x => gck x.1.1 x.1.2.1⟩
theorem gckK : EntryOk tP gckE :=
 entry_ok tM rfl gckL (fn := Go.Proofs.Try.f39) Go.Proofs.Try.func39 (by kernel_rfl) (root := gckB) (by kernel_rfl) gckc1 [] gcka (.tup (shps [(.agg (shps [(.ow Z21), (.ow (.cons (.int .i64) (.cons (.int .i64) (.cons (.int .i64) (.cons (.int .i64) (.cons .bool (.cons .bool (.cons (.int .i64) (.cons (.int .i64) Z18))))))))), (.ow (.cons (.int .i64) (.cons .bool Z25))), (.ow (.cons (.int .i64) Z11)), (.ow (.cons (.int .i64) (.cons (.int .i64) (.cons (.int .i64) (.cons (.int .i64) (.cons (.int .i64) (.cons (.int .i64) Z18))))))), (.ow (.cons (.int .i64) (.cons (.int .i64) (.cons (.int .i64) (.cons (.int .i64) Z18))))), (.ow (.cons (.sl (.cons (.int .i64) (.cons (.int .i64) Z18))) (.cons (.int .i64) Z12))), (.ow (.one (.int .i64)))])), (.agg (shps [(.ow (.cons (.int .i64) (.cons (.int .i64) (.cons (.int .i64) Z23)))), (.ow (.one (.int .i64))), (.int .i64)]))])) gcko (fun x => gck x.1.1 x.1.2.1) (fun x => by kernel_rfl) fun x => by kernel_rfl
def gclC : Ctx := ⟨tP, 102, 0, [(1, [8, 9]), (3, [11, 12, 13]), (6, [18, 19, 20]), (7, [21]), (9, [38]), (10, [39, 40, 41, 42, 43, 44, 45, 46, 47, 48, 49, 50, 51, 52, 53, 54, 55, 56, 57, 58]), (11, [60, 61, 62, 63, 64, 65, 66, 67]), (12, [69]), (13, [70, 71, 72, 73, 74, 75, 76, 77, 78]), (14, [80]), (15, [81, 82, 83, 84, 85, 86, 87, 88, 89, 90, 91, 92, 93, 94]), (8, [23, 24, 25, 26, 27, 28, 29, 30, 31, 32, 33, 34, 35, 36]), (16, [95]), (17, [96, 97, 98, 99, 100, 101])], [], []⟩
def gclB : Code := (Go.Proofs.Try.f64.body).getD .skip
def gcla : Shps := (shps [(.sl (.cons (.int .i64) (.cons (.int .i64) Z18))), (.sl (.one (.int .i64)))])
def gclo : Shps := (shps [])
def gclO : List Entry := [gbsE]
theorem gclL : ∀ e ∈ gclO, EntryOk tP e := by
 intro e he
 simp only [gclO, List.mem_cons, List.not_mem_nil, or_false] at he
 rcases he with rfl
 ·exact gbsK
def gclk0 : List (Nat × Cut) := []
theorem gclc0 : CutsOk tP gclC gclB gclk0 := CutsOk.nil
def gcl_122s : Shps := (shps [(.sl (.one (.int .i64))), (.ow (.one (.int .i64))), (.sl (.cons (.int .i64) (.cons (.int .i64) Z18))), (.int .i64), (.int .i64)])
def gcl_122w : List Way := [.exit 0 Z20 [5]]
def gclk1 : List (Nat × Cut) := (122, loopOf gcl_122s [1, 5, 14, 15, 16] gcl_122w gcl_122F) :: gclk0
theorem gclc1 : CutsOk tP gclC gclB gclk1 :=
 CutsOk.loop tM rfl gclL gclc0 122 gcl_122s [1, 5, 14, 15, 16] gcl_122w gcl_122F (by kernel_rfl) (by kernel_rfl) fun x => by kernel_rfl
def gclE : Entry := ⟨64, gcla, (.int .i64), gclo, fun x => gcl x.1 x.2.1⟩
theorem gclK : EntryOk tP gclE :=
 entry_ok tM rfl gclL (fn := Go.Proofs.Try.f64) Go.Proofs.Try.func64 (by kernel_rfl) (root := gclB) (by kernel_rfl) gclc1 [] gcla (.int .i64) gclo (fun x => gcl x.1 x.2.1) (fun x => by kernel_rfl) fun x => by kernel_rfl
def gcmC : Ctx := ⟨tP, 93, 0, [(1, [18, 19]), (2, [20]), (3, [22]), (4, [23, 24, 25, 26, 27, 28, 29, 30, 31, 32, 33, 34, 35]), (6, [37, 38, 39, 40, 41]), (8, [43, 44]), (10, [45]), (12, [50, 51, 52]), (13, [53, 54, 55]), (14, [56, 57, 58, 59]), (15, [60]), (16, [62, 63, 64, 65]), (17, [67, 68, 69, 70]), (18, [71, 72, 73]), (19, [74, 75, 76, 77]), (20, [79, 80, 81, 82, 83, 84, 85]), (21, [86, 87, 88, 89]), (22, [90]), (23, [91, 92])], [], []⟩
def gcmB : Code := (Go.Proofs.Try.f29.body).getD .skip
def gcma : Shps := (shps [(.agg (shps [(.sl Z21), (.sl (.cons (.int .i64) (.cons (.int .i64) (.cons (.int .i64) (.cons (.int .i64) (.cons .bool (.cons .bool (.cons (.int .i64) (.cons (.int .i64) Z18))))))))), (.sl (.cons (.int .i64) (.cons .bool Z25))), (.sl (.cons (.int .i64) Z11)), (.sl (.cons (.int .i64) (.cons (.int .i64) (.cons (.int .i64) (.cons (.int .i64) (.cons (.int .i64) (.cons (.int .i64) Z18))))))), (.sl (.cons (.int .i64) (.cons (.int .i64) (.cons (.int .i64) (.cons (.int .i64) Z18))))), (.sl (.cons (.sl (.cons (.int .i64) (.cons (.int .i64) Z18))) (.cons (.int .i64) Z12))), (.sl (.one (.int .i64)))])), (.sl (.one (.int .i64))), (.sl (.cons .bool Z18)), (.int .i64)])
def gcmo : Shps := (shps [])
def gcmO : List Entry := [gbvE, gclE]
theorem gcmL : ∀ e ∈ gcmO, EntryOk tP e := by
 intro e he
 simp only [gcmO, List.mem_cons, List.not_mem_nil, or_false] at he
 rcases he with rfl | rfl
 ·exact gbvK
 ·exact gclK
def gcmk0 : List (Nat × Cut) := []
theorem gcmc0 : CutsOk tP gcmC gcmB gcmk0 := CutsOk.nil
def gcm_1018s : Shps := (shps [(.sl (.one (.int .i64))), (.int .i64), (.ow (.cons .bool Z18)), (.ow (.one (.int .i64))), (.sl (.cons (.sl (.cons (.int .i64) (.cons (.int .i64) Z18))) (.cons (.int .i64) Z12))), (.int .i64), (.int .i64)])
def gcm_1018w : List Way := [.exit 0 (shps [(.ow (.cons .bool Z18)), (.ow (.one (.int .i64)))]) [12, 13]]
def gcmk1 : List (Nat × Cut) := (1018, loopOf gcm_1018s [1, 3, 12, 13, 46, 47, 48] gcm_1018w gcm_1018F) :: gcmk0
theorem gcmc1 : CutsOk tP gcmC gcmB gcmk1 :=
 CutsOk.loop tM rfl gcmL gcmc0 1018 gcm_1018s [1, 3, 12, 13, 46, 47, 48] gcm_1018w gcm_1018F (by kernel_rfl) (by kernel_rfl) fun x => by kernel_rfl
def gcmE : Entry := ⟨29, gcma, (.tup (shps [(.ow (.cons .bool Z18)), (.ow (.one (.int .i64))), (.int .i64)])), gcmo, fun x => gcm x.1.1 x.1.2.1 x.1.2.2.1 x.1.2.2.2.1 x.1.2.2.2.2.1 x.1.2.2.2.2.2.1 x.1.2.2.2.2.2.2.1 x.1.2.2.2.2.2.2.2.1 x.2.1 x.2.2.1 x.2.2.2.1⟩
theorem gcmK : EntryOk tP gcmE :=
 entry_ok tM rfl gcmL (fn := Go.Proofs.Try.f29) Go.Proofs.Try.func29 (by kernel_rfl) (root := gcmB) (by kernel_rfl) gcmc1 [] gcma (.tup (shps [(.ow (.cons .bool Z18)), (.ow (.one (.int .i64))), (.int .i64)])) gcmo (fun x => gcm x.1.1 x.1.2.1 x.1.2.2.1 x.1.2.2.2.1 x.1.2.2.2.2.1 x.1.2.2.2.2.2.1 x.1.2.2.2.2.2.2.1 x.1.2.2.2.2.2.2.2.1 x.2.1 x.2.2.1 x.2.2.2.1) (fun x => by kernel_rfl) fun x => by kernel_rfl
def gcnC : Ctx := ⟨tP, 26, 0, [(1, [6, 7, 8, 9]), (4, [11, 12, 13]), (6, [17, 18, 19, 20, 21, 22, 23, 24]), (5, [15, 16])], [], []⟩
def gcnB : Code := (Go.Proofs.Try.f24.body).getD .skip
def gcna : Shps := Z8
def gcno : Shps := (shps [])
def gcnO : List Entry := []
theorem gcnL : ∀ e ∈ gcnO, EntryOk tP e := by
 intro e he; cases he
def gcnk0 : List (Nat × Cut) := []
theorem gcnc0 : CutsOk tP gcnC gcnB gcnk0 := CutsOk.nil
def gcn_58s : Shps := (shps [(.sl (.one (.int .i64))), (.sl (.one (.int .i64))), (.int .i64)])
def gcn_58w : List Way := [.ret (shps [.bool]) [4], .exit 0 (shps []) []]
def gcnk1 : List (Nat × Cut) := (58, loopOf gcn_58s [0, 1, 5] gcn_58w gcn_58F) :: gcnk0
theorem gcnc1 : CutsOk tP gcnC gcnB gcnk1 :=
 CutsOk.loop tM rfl gcnL gcnc0 58 gcn_58s [0, 1, 5] gcn_58w gcn_58F (by kernel_rfl) (by kernel_rfl) fun x => by kernel_rfl
def gcnE : Entry := ⟨24, gcna, .bool, gcno, fun x => gcn x.1 x.2.1⟩
theorem gcnK : EntryOk tP gcnE :=
 entry_ok tM rfl gcnL (fn := Go.Proofs.Try.f24) Go.Proofs.Try.func24 (by kernel_rfl) (root := gcnB) (by kernel_rfl) gcnc1 [] gcna .bool gcno (fun x => gcn x.1 x.2.1) (fun x => by kernel_rfl) fun x => by kernel_rfl
def gcoC : Ctx := ⟨tP, 139, 0, [(1, [2, 17, 18, 19, 20, 21]), (2, [22, 23]), (3, [24, 25]), (4, [26, 27, 28, 29, 30, 31, 32, 33, 34, 35]), (5, [9, 36, 37, 38, 39, 40, 41, 42, 43, 44, 45, 46]), (6, [47, 48, 49, 50, 51, 52, 53, 54, 55]), (7, [56, 57, 58, 59, 60, 61, 62, 63, 64]), (8, [65, 66, 67, 68, 69, 70, 71, 72, 73, 74, 75, 76, 77, 78, 79, 80, 81, 82, 83, 84, 85, 86, 87, 88, 89, 90, 91, 92, 93, 94, 95, 96, 97, 98, 99, 100, 101, 102, 103, 104, 105, 106, 107, 108, 109, 110, 111, 112, 113, 114, 115, 116, 117, 118, 119, 120, 121, 122, 123, 124, 125, 126, 127, 128, 129, 130, 131, 132, 133, 134, 135, 136, 137, 138])], [], []⟩
def gcoB : Code := (Go.Proofs.Try.f10.body).getD .skip
def gcoa : Shps := (shps [])
def gcoo : Shps := (shps [])
def gcoO : List Entry := [gchE, gckE, gcgE, gcmE, gbvE, gcnE]
theorem gcoL : ∀ e ∈ gcoO, EntryOk tP e := by
 intro e he
 simp only [gcoO, List.mem_cons, List.not_mem_nil, or_false] at he
 rcases he with rfl | rfl | rfl | rfl | rfl | rfl
 ·exact gchK
 ·exact gckK
 ·exact gcgK
 ·exact gcmK
 ·exact gbvK
 ·exact gcnK
def gcok0 : List (Nat × Cut) := []
theorem gcoc0 : CutsOk tP gcoC gcoB gcok0 := CutsOk.nil
def gcoE : Entry := ⟨10, gcoa, .bool, gcoo, fun x => gco⟩
theorem gcoK : EntryOk tP gcoE :=
 entry_ok tM rfl gcoL (fn := Go.Proofs.Try.f10) Go.Proofs.Try.func10 (by kernel_rfl) (root := gcoB) (by kernel_rfl) gcoc0 [] gcoa .bool gcoo (fun x => gco) (fun x => by kernel_rfl) fun x => by kernel_rfl
def gcpC : Ctx := ⟨tP, 225, 0, [(1, [26, 27]), (2, [9, 28, 29, 30, 31, 32, 33]), (3, [34, 35, 36, 37, 38, 39, 40, 41, 42, 43]), (4, [44, 45, 46]), (5, [47, 48]), (6, [49]), (8, [53]), (9, [54, 55, 56, 57, 58, 59]), (10, [61, 62, 63, 64, 65, 66, 67, 68, 69, 70, 71, 72, 73]), (11, [74, 75, 76, 77, 78, 79, 80, 81, 82, 83, 84, 85, 86]), (12, [87]), (13, [88, 89]), (14, [90]), (16, [94]), (17, [95, 96, 97, 98, 99, 100, 101, 102, 103, 104, 105, 106, 107, 108, 109, 110, 111, 112, 113, 114, 115, 116, 117, 118, 119, 120]), (18, [121]), (19, [122, 123, 124, 125, 126, 127, 128, 129, 130, 131]), (20, [132, 133, 134, 135, 136, 137, 138, 139, 140, 141]), (21, [142, 143, 144, 145, 146, 147, 148, 149, 150, 151, 152, 153, 154, 155, 156, 157, 158, 159, 160, 161, 162, 163, 164, 165, 166, 167, 168, 169, 170, 171, 172, 173, 174, 175]), (23, [177]), (25, [181]), (26, [182, 183, 184, 185, 186, 187, 188, 189, 190, 191, 192, 193, 194, 195, 196, 197, 198, 199, 200, 201, 202, 203, 204, 205, 206, 207, 208, 209, 210, 211, 212, 213, 214, 215, 216, 217, 218, 219, 220, 221]), (28, [223]), (29, [224])], [], []⟩
def gcpB : Code := (Go.Proofs.Try.f7.body).getD .skip
def gcpa : Shps := (shps [(.sl (.one (.int .u8))), (.int .u8), (.int .u8)])
def gcpo : Shps := (shps [])
def gcpO : List Entry := [gaaE, gawE, gbcE, gbeE, gbfE, gazE, gcgE, gcoE]
theorem gcpL : ∀ e ∈ gcpO, EntryOk tP e := by
 intro e he
 simp only [gcpO, List.mem_cons, List.not_mem_nil, or_false] at he
 rcases he with rfl | rfl | rfl | rfl | rfl | rfl | rfl | rfl
 ·exact gaaK
 ·exact gawK
 ·exact gbcK
 ·exact gbeK
 ·exact gbfK
 ·exact gazK
 ·exact gcgK
 ·exact gcoK
def gcpk0 : List (Nat × Cut) := []
theorem gcpc0 : CutsOk tP gcpC gcpB gcpk0 := CutsOk.nil
def gcp_1018s : Shps := (shps [(.int .u8), (.box (shps [(.ow Z21), (.sl (.cons (.int .i64) (.cons (.int .i64) (.cons (.int .i64) (.cons (.int .i64) (.cons .bool (.cons .bool (.cons (.int .i64) (.cons (.int .i64) Z18))))))))), (.sl (.cons (.int .i64) (.cons .bool Z25))), (.sl (.cons (.int .i64) Z11)), (.ow (.cons (.int .i64) (.cons (.int .i64) (.cons (.int .i64) (.cons (.int .i64) (.cons (.int .i64) (.cons (.int .i64) Z18))))))), (.ow (.cons (.int .i64) (.cons (.int .i64) (.cons (.int .i64) (.cons (.int .i64) Z18))))), (.ow (.cons (.sl (.cons (.int .i64) (.cons (.int .i64) Z18))) (.cons (.int .i64) Z12))), (.ow (.one (.int .i64)))])), (.ow (.cons (.int .i64) (.cons (.int .i64) Z18))), (.ow (.cons .bool Z18)), (.ow Z18), (.int .i64), (.ow (.cons (.int .i64) (.cons (.int .i64) Z18))), (.int .i64), (.int .i64)])
def gcp_1018w : List Way := [.exit 0 (shps [(.int .u8), (.box (shps [(.ow Z21), (.sl (.cons (.int .i64) (.cons (.int .i64) (.cons (.int .i64) (.cons (.int .i64) (.cons .bool (.cons .bool (.cons (.int .i64) (.cons (.int .i64) Z18))))))))), (.sl (.cons (.int .i64) (.cons .bool Z25))), (.sl (.cons (.int .i64) Z11)), (.ow (.cons (.int .i64) (.cons (.int .i64) (.cons (.int .i64) (.cons (.int .i64) (.cons (.int .i64) (.cons (.int .i64) Z18))))))), (.ow (.cons (.int .i64) (.cons (.int .i64) (.cons (.int .i64) (.cons (.int .i64) Z18))))), (.ow (.cons (.sl (.cons (.int .i64) (.cons (.int .i64) Z18))) (.cons (.int .i64) Z12))), (.ow (.one (.int .i64)))])), (.ow (.cons (.int .i64) (.cons (.int .i64) Z18))), (.ow (.cons .bool Z18)), (.ow Z18), (.int .i64), (.ow (.cons (.int .i64) (.cons (.int .i64) Z18)))]) [1, 8, 11, 12, 13, 14, 15]]
def gcpk1 : List (Nat × Cut) := (1018, loopOf gcp_1018s [1, 8, 11, 12, 13, 14, 15, 50, 51] gcp_1018w gcp_1018F) :: gcpk0
theorem gcpc1 : CutsOk tP gcpC gcpB gcpk1 :=
 CutsOk.loop tM rfl gcpL gcpc0 1018 gcp_1018s [1, 8, 11, 12, 13, 14, 15, 50, 51] gcp_1018w gcp_1018F (by kernel_rfl) (by kernel_rfl) fun x => by kernel_rfl
def gcp_4090s : Shps := (shps [(.int .u8), (.box (shps [(.ow Z21), (.sl (.cons (.int .i64) (.cons (.int .i64) (.cons (.int .i64) (.cons (.int .i64) (.cons .bool (.cons .bool (.cons (.int .i64) (.cons (.int .i64) Z18))))))))), (.sl (.cons (.int .i64) (.cons .bool Z25))), (.sl (.cons (.int .i64) Z11)), (.ow (.cons (.int .i64) (.cons (.int .i64) (.cons (.int .i64) (.cons (.int .i64) (.cons (.int .i64) (.cons (.int .i64) Z18))))))), (.ow (.cons (.int .i64) (.cons (.int .i64) (.cons (.int .i64) (.cons (.int .i64) Z18))))), (.ow (.cons (.sl (.cons (.int .i64) (.cons (.int .i64) Z18))) (.cons (.int .i64) Z12))), (.ow (.one (.int .i64)))])), (.ow (.cons (.int .i64) (.cons (.int .i64) Z18))), (.ow (.cons .bool Z18)), (.ow Z18), (.int .i64), (.ow (.cons (.int .i64) (.cons (.int .i64) Z18))), (.ow Z18), (.int .i64), (.int .i64)])
def gcp_4090w : List Way := [.exit 2 (shps [(.box (shps [(.ow Z21), (.sl (.cons (.int .i64) (.cons (.int .i64) (.cons (.int .i64) (.cons (.int .i64) (.cons .bool (.cons .bool (.cons (.int .i64) (.cons (.int .i64) Z18))))))))), (.sl (.cons (.int .i64) (.cons .bool Z25))), (.sl (.cons (.int .i64) Z11)), (.ow (.cons (.int .i64) (.cons (.int .i64) (.cons (.int .i64) (.cons (.int .i64) (.cons (.int .i64) (.cons (.int .i64) Z18))))))), (.ow (.cons (.int .i64) (.cons (.int .i64) (.cons (.int .i64) (.cons (.int .i64) Z18))))), (.ow (.cons (.sl (.cons (.int .i64) (.cons (.int .i64) Z18))) (.cons (.int .i64) Z12))), (.ow (.one (.int .i64)))])), (.ow (.cons (.int .i64) (.cons (.int .i64) Z18))), (.ow (.cons .bool Z18)), (.ow Z18), (.int .i64), (.ow (.cons (.int .i64) (.cons (.int .i64) Z18))), (.ow Z18)]) [8, 11, 12, 13, 14, 15, 17]]
def gcpk2 : List (Nat × Cut) := (4090, loopOf gcp_4090s [1, 8, 11, 12, 13, 14, 15, 17, 91, 92] gcp_4090w gcp_4090F) :: gcpk1
theorem gcpc2 : CutsOk tP gcpC gcpB gcpk2 :=
 CutsOk.loop tM rfl gcpL gcpc1 4090 gcp_4090s [1, 8, 11, 12, 13, 14, 15, 17, 91, 92] gcp_4090w gcp_4090F (by kernel_rfl) (by kernel_rfl) fun x => by kernel_rfl
def gcp_65530s : Shps := (shps [(.ow (.one (.int .i64))), (.ow (.cons .bool Z18)), (.ow (.one (.int .i64))), (.ow (.cons .bool Z18)), (.int .i64), (.int .i64)])
def gcp_65530w : List Way := [.ret (shps [.bool]) [6], .exit 4 (shps []) []]
def gcpk3 : List (Nat × Cut) := (65530, loopOf gcp_65530s [19, 20, 22, 23, 178, 179] gcp_65530w gcp_65530F) :: gcpk2
theorem gcpc3 : CutsOk tP gcpC gcpB gcpk3 :=
 CutsOk.loop tM rfl gcpL gcpc2 65530 gcp_65530s [19, 20, 22, 23, 178, 179] gcp_65530w gcp_65530F (by kernel_rfl) (by kernel_rfl) fun x => by kernel_rfl
def gcpE : Entry := ⟨7, gcpa, .bool, gcpo, fun x => gcp x.1 x.2.1 x.2.2.1⟩
theorem gcpK : EntryOk tP gcpE :=
 entry_ok tM rfl gcpL (fn := Go.Proofs.Try.f7) Go.Proofs.Try.func7 (by kernel_rfl) (root := gcpB) (by kernel_rfl) gcpc3 [] gcpa .bool gcpo (fun x => gcp x.1 x.2.1 x.2.2.1) (fun x => by kernel_rfl) fun x => by kernel_rfl
end
end Go.V
