/-
  The data that the functions make which CutoffMeans reaches: plain Lean, printed by a program.
  gaa = draw_New
  gab = draw_Next
  gac = draw_One
  gad = draw_Range
  gae = draw_Road
  gaf = draw_Curve
  gag = draw_Door_h4
  gah = draw_equipped_soooo
  gai = ref08_Rest
  gaj = ref05_Floor
  gak = ref05_Ceil
  gal = ref07_Inner
  gam = ref07_Along
  gan = ref07_State
  gao = draw_fit_soooobbbb
  gap = draw_doubts
  gaq = draw_Made_h14
  gar = ref05_Stately
  gas = draw_Sensor
  gat = draw_Level
  gau = draw_Cond
  gav = draw_Rule
  gaw = draw_Site
  gax = ref01_Span
  gay = ref01_Check
  gaz = ref07_Check
  gba = ref08_Check
  gbb = ref09_Check
  gbc = ref09_Right
  gbd = ref09_open
  gbe = ref09_Inner
  gbf = ref09_Drop
  gbg = ref09_Fits
  gbh = ref11_Ranged
  gbi = ref01_From
  gbj = ref01_Airy
  gbk = ref11_Fixed
  gbl = ref12_check
  gbm = ref09_Lowest
  gbn = ref09_Highest
  gbo = ref10_Lowest
  gbp = ref10_Up
  gbq = ref10_Highest
  gbr = ref10_Down
  gbs = ref12_relax
  gbt = ref12_Fall
  gbu = ref12_Rise
  gbv = ref12_Solve
  gbw = ref11_Check
  gbx = ref05_Nothing
  gby = ref11_Flows
  gbz = ref13_Analyse
  gca = ref17_Begin
  gcb = law20_watched
  gcc = plan_spanIn
  gcd = plan_Check
  gce = fan_Check
  gcf = door_Check
  gcg = branch_Check
  gch = sensor_in
  gci = sensor_Check
  gcj = cutoff_has
  gck = cutoff_checkSensors
  gcl = level_Check
  gcm = cutoff_checkCond
  gcn = rule_part
  gco = rule_right
  gcp = rule_Check
  gcq = cutoff_checkZone
  gcr = cutoff_Check
  gcs = sensor_Nothing
  gct = window_plain
  gcu = window_At
  gcv = cutoff_Known
  gcw = window_Above
  gcx = level_Step
  gcy = cutoff_over
  gcz = cutoff_stopped
  gda = airflow_fed
  gdb = airflow_Fed
  gdc = cutoff_Values
  gdd = draw_New_n
  gde = draw_Next_o
  gdf = draw_Range_o
  gdg = draw_Easy_o
  gdh = rule_Eval
  gdi = cutoff_Cuts
  gdj = ref01_Ints
  gdk = law20_awake
  gdl = law20_CutoffMeans
-/
import Derived.Test.YtedhbknblmfgeaaVCutoffMeansc
set_option linter.all false
namespace Go.V
open Go
noncomputable section
open Go.IntKind (wrap)
abbrev Y1:Type:=Int×Int×Int×Int×Bool×Bool×Int×Int×Int×Int×Unit
abbrev Y2:Type:=Int×Int×Int×Int×Bool×Bool×Int×Int×Int×Int
abbrev Y3:Type:=Int×Int×Int×Int×Int×Int×Int×Int×Unit
abbrev Y4:Type:=Int×Int×Int×Int×Int×Int×Int×Int
abbrev Y5:Type:=Int×Int×Int×Int×Int×Int×Unit
abbrev Y6:Type:=Int×Int×Int×Int×Int×Int
abbrev Y7:Type:=Int×Int×Int×Bool×Bool
abbrev Y8:Type:=Int×Int×List Int×Unit
abbrev Y9:Type:=List Int×List Int×Unit
abbrev Y10:Type:=Bool×Int×Int×Unit
abbrev Y11:Type:=Int×Int×Bool×Unit
abbrev Y12:Type:=List Int×Int×Unit
abbrev Y13:Type:=Int×Int×Int×Int
abbrev Y14:Type:=Int×Int×List Int
abbrev Y15:Type:=Int×Bool×Unit
abbrev Y16:Type:=Int×Int×Unit
abbrev Y17:Type:=List Bool×Unit
abbrev Y18:Type:=Bool×Int×Int
abbrev Y19:Type:=List Int×Unit
abbrev Y20:Type:=Y12×List Y13×List Y13×Int×Unit
abbrev Y21:Type:=List Y13×Int×List Int×Int×Unit
abbrev Y22:Type:=Y12×List Y18×Int×Int×Unit
abbrev Y23:Type:=Y12×List Y13×List Y13×Unit
abbrev Y24:Type:=List Y14×Int×Y8×Int×Unit
abbrev Y25:Type:=Y12×Y9×Y9×Y9×Int×Unit
abbrev Y26:Type:=List Y13×Int×List Int×Int
abbrev Y27:Type:=List Y7×List Int×Int×Unit
abbrev Y28:Type:=Y12×Int×Int×Unit
abbrev Y29:Type:=List Y13×Int×Unit
abbrev Y30:Type:=Y12×Y5×Unit
def gaa (x0:List Int):Option (Y12×Unit) :=
 bif (decide (0≤(bif decide (300 < (x0.length:Int)) then 300 else (x0.length:Int))) && decide ((bif decide (300 < (x0.length:Int)) then 300 else (x0.length:Int))≤(x0.length:Int))) then
 some (((x0).take ((bif decide (300 < (x0.length:Int)) then 300 else (x0.length:Int)).toNat),0,()),())
 else none
def gab_63 (x0:List Int) (x1 x2 x3:Int):Option (Y12×Int×Unit) :=
 bif (!decide (x2 = 0)) then
 some ((x0,x1,()),(Int.tmod x3 x2),())
 else none
def gab (x0:List Int) (x1 x2:Int):Option (Int×(Y12×Unit)) :=
 (bif decide (x2 < 1) then some true else some (decide (x1 ≥ (x0.length:Int)))).bind fun b0 =>
 bif b0 then
  some (0,((x0,x1,()),()))
 else
  (idx x0 (wrap .i64 ((wrap .i64 (x1 + 1)) - 1))).bind fun v0 =>
  (bif decide (x2 > 256) then some (decide ((wrap .i64 (x1 + 1)) < (x0.length:Int))) else some false).bind fun b1 =>
  bif b1 then
   (idx x0 (wrap .i64 (x1 + 1))).bind fun v1 =>
   (gab_63 x0 (wrap .i64 ((wrap .i64 (x1 + 1)) + 1)) x2 (wrap .i64 ((wrap .i64 ((wrap .i64 v0) * 256)) + (wrap .i64 v1)))).bind fun z0 =>
   some (z0.2.1,(z0.1,()))
  else
   (gab_63 x0 (wrap .i64 (x1 + 1)) x2 (wrap .i64 v0)).bind fun z1 =>
   some (z1.2.1,(z1.1,()))
def gac (x0:List Int) (x1 x2:Int):Option (Bool×(Y12×Unit)) :=
 (gab x0 x1 x2).bind fun y0 =>
 some ((y0.1 == (wrap .i64 (x2 - 1))),y0.2)
def gad (x0:List Int) (x1 x2 x3:Int):Option (Int×(Y12×Unit)) :=
 (gab x0 x1 (wrap .i64 ((wrap .i64 (x3 - x2)) + 1))).bind fun y0 =>
 some ((wrap .i64 (x2 + y0.1)),y0.2)
def gae (x0:List Int) (x1 x2 x3:Int):Option (Y1×(Y12×Unit)) :=
 (gad x0 x1 1 400).bind fun y0 =>
 (gad y0.2.1.1 y0.2.1.2.1 4 30).bind fun y1 =>
 (gab y1.2.1.1 y1.2.1.2.1 4).bind fun y2 =>
 (gad y2.2.1.1 y2.2.1.2.1 1 20).bind fun y3 =>
 (gab y3.2.1.1 y3.2.1.2.1 3).bind fun y4 =>
 (gad y4.2.1.1 y4.2.1.2.1 (-300) 300).bind fun y5 =>
 (gab y5.2.1.1 y5.2.1.2.1 20).bind fun y6 =>
 some ((x2,x3,y0.1,y1.1,decide (y2.1 > 0),false,y3.1,(wrap .i64 (y3.1 + y4.1)),y5.1,(wrap .i64 (y5.1 + y6.1)),()),y6.2)
def gaf_58r (x0:List Int) (x1:Int) (x2:List (Int×Int)) (x3:Int):Option ((Y12×List (Int×Int)×Int×Unit) ⊕ (Y12×List (Int×Int)×Unit)) :=
 bif decide (x3 > 0) then
  bif (decide (0≤(wrap .i64 ((x2.length:Int) - 1))) && decide ((wrap .i64 ((x2.length:Int) - 1)) < (x2.length:Int))) then
  (x2[(wrap .i64 ((x2.length:Int) - 1)).toNat]?).bind fun v0 =>
  (gad x0 x1 1 40).bind fun y0 =>
  (gab y0.2.1.1 y0.2.1.2.1 900).bind fun y1 =>
  bif decide ((x2.length + 1) * 16≤140737488355328) then
  some (.inl (y1.2.1,(x2 ++ ([((wrap .i64 (v0.1 + y0.1)),(bif decide ((wrap .i64 (v0.2 - y1.1)) > 0) then (wrap .i64 (v0.2 - y1.1)) else 0))]:List (Int×Int))),(wrap .i64 (x3 - 1)),()))
  else none
  else none
 else
  some (.inr ((x0,x1,()),x2,()))
def gaf_58F (x:(Y12×List (Int×Int)×Int×Unit)):=gaf_58r x.1.1 x.1.2.1 x.2.1 x.2.2.1
def gaf_58 (x0:List Int) (x1:Int) (x2:List (Int×Int)) (x3:Int):=loopL gaf_58F ((x0,x1,()),x2,x3,())
def gaf (x0:List Int) (x1:Int):Option (List (Int×Int)×(Y12×Unit)) :=
 (gad x0 x1 (-20) 10).bind fun y2 =>
 (gad y2.2.1.1 y2.2.1.2.1 500 3000).bind fun y3 =>
 (gab y3.2.1.1 y3.2.1.2.1 4).bind fun y4 =>
 (gaf_58 y4.2.1.1 y4.2.1.2.1 ([(y2.1,y3.1)]:List (Int×Int)) y4.1).bind fun z0 =>
 some (z0.2.1,(z0.1,()))
def gag_58r (x0:List Int) (x1 x2 x3:Int) (x4:List Int) (x5 x6:Int) (x7:List Int) (x8:Int):Option ((Y12×Y8×Y8×Int×Unit) ⊕ (Y12×Y8×Y8×Unit)) :=
 bif decide (x8 > 0) then
  bif (decide (0≤(wrap .i64 ((x7.length:Int) - 1))) && decide ((wrap .i64 ((x7.length:Int) - 1)) < (x7.length:Int))) then
  (x7[(wrap .i64 ((x7.length:Int) - 1)).toNat]?).bind fun v0 =>
  (gad x0 x1 1 60).bind fun y0 =>
  bif decide ((x7.length + 1) * 8≤140737488355328) then
  some (.inl (y0.2.1,(x2,x3,x4,()),(x5,x6,(x7 ++ ([(bif decide ((wrap .i64 (v0 - y0.1)) > 0) then (wrap .i64 (v0 - y0.1)) else 0)]:List Int)),()),(wrap .i64 (x8 - 1)),()))
  else none
  else none
 else
  some (.inr ((x0,x1,()),(x2,x3,x4,()),(x5,x6,x7,()),()))
def gag_58F (x:(Y12×Y8×Y8×Int×Unit)):=gag_58r x.1.1 x.1.2.1 x.2.1.1 x.2.1.2.1 x.2.1.2.2.1 x.2.2.1.1 x.2.2.1.2.1 x.2.2.1.2.2.1 x.2.2.2.1
def gag_58 (x0:List Int) (x1 x2 x3:Int) (x4:List Int) (x5 x6:Int) (x7:List Int) (x8:Int):=loopL gag_58F ((x0,x1,()),(x2,x3,x4,()),(x5,x6,x7,()),x8,())
def gag (x0:List Int) (x1 x2:Int):Option (Y8×(Y12×Unit)) :=
 (gad x0 x1 200 900).bind fun y1 =>
 (gad y1.2.1.1 y1.2.1.2.1 1 3).bind fun y2 =>
 (gag_58 y2.2.1.1 y2.2.1.2.1 0 0 ([]:List Int) x2 (-1) ([y1.1]:List Int) y2.1).bind fun z0 =>
 some (z0.2.2.1,(z0.1,()))
def gah_122r (x0:List Int) (x1:Int) (x2:List (Int×Bool)) (x3:List Y2) (x4:List (Int×Bool×Bool×List (Int×Int))) (x5:List Y14) (x6 x7 x8 x9:List Int) (x10 x11:Int):Option ((Y12×(List (Int×Bool)×List Y2×List (Int×Bool×Bool×List (Int×Int))×List Y14×Unit)×Y9×Y9×Int×Int×Unit) ⊕ (Y12×(List (Int×Bool)×List Y2×List (Int×Bool×Bool×List (Int×Int))×List Y14×Unit)×Y9×Y9×Int×Unit)) :=
 (bif decide (x11 > 0) then some (decide (x10 > 0)) else some false).bind fun b0 =>
 bif b0 then
  (gab x0 x1 x10).bind fun y0 =>
  (gac y0.2.1.1 y0.2.1.2.1 3).bind fun y1 =>
  (gac y1.2.1.1 y1.2.1.2.1 3).bind fun y2 =>
  (gaf y2.2.1.1 y2.2.1.2.1).bind fun y3 =>
  bif decide ((x4.length + 1) * 40≤140737488355328) then
  (gab y3.2.1.1 y3.2.1.2.1 3).bind fun y4 =>
  bif decide ((x8.length + 1) * 8≤140737488355328) then
  some (.inl (y4.2.1,(x2,x3,(x4 ++ ([(y0.1,y1.1,y2.1,y3.1)]:List (Int×Bool×Bool×List (Int×Int)))),x5,()),(x6,x7,()),((x8 ++ ([y4.1]:List Int)),x9,()),x10,(wrap .i64 (x11 - 1)),()))
  else none
  else none
 else
  some (.inr ((x0,x1,()),(x2,x3,x4,x5,()),(x6,x7,()),(x8,x9,()),x10,()))
def gah_122F (x:(Y12×(List (Int×Bool)×List Y2×List (Int×Bool×Bool×List (Int×Int))×List Y14×Unit)×Y9×Y9×Int×Int×Unit)):=gah_122r x.1.1 x.1.2.1 x.2.1.1 x.2.1.2.1 x.2.1.2.2.1 x.2.1.2.2.2.1 x.2.2.1.1 x.2.2.1.2.1 x.2.2.2.1.1 x.2.2.2.1.2.1 x.2.2.2.2.1 x.2.2.2.2.2.1
def gah_122 (x0:List Int) (x1:Int) (x2:List (Int×Bool)) (x3:List Y2) (x4:List (Int×Bool×Bool×List (Int×Int))) (x5:List Y14) (x6 x7 x8 x9:List Int) (x10 x11:Int):=loopL gah_122F ((x0,x1,()),(x2,x3,x4,x5,()),(x6,x7,()),(x8,x9,()),x10,x11,())
def gah_250r (x0:List Int) (x1:Int) (x2:List (Int×Bool)) (x3:List Y2) (x4:List (Int×Bool×Bool×List (Int×Int))) (x5:List Y14) (x6 x7 x8 x9:List Int) (x10 x11:Int):Option ((Y12×(List (Int×Bool)×List Y2×List (Int×Bool×Bool×List (Int×Int))×List Y14×Unit)×Y9×Y9×Int×Int×Unit) ⊕ (Y12×(List (Int×Bool)×List Y2×List (Int×Bool×Bool×List (Int×Int))×List Y14×Unit)×Y9×Y9×Unit)) :=
 (bif decide (x11 > 0) then some (decide (x10 > 0)) else some false).bind fun b1 =>
 bif b1 then
  (gab x0 x1 x10).bind fun y5 =>
  (gag y5.2.1.1 y5.2.1.2.1 y5.1).bind fun y6 =>
  bif decide ((x5.length + 1) * 40≤140737488355328) then
  (gab y6.2.1.1 y6.2.1.2.1 (y6.1.2.2.1.length:Int)).bind fun y7 =>
  bif decide ((x9.length + 1) * 8≤140737488355328) then
  some (.inl (y7.2.1,(x2,x3,x4,(x5 ++ ([(y6.1.1,y6.1.2.1,y6.1.2.2.1)]:List Y14)),()),(x6,x7,()),(x8,(x9 ++ ([y7.1]:List Int)),()),x10,(wrap .i64 (x11 - 1)),()))
  else none
  else none
 else
  some (.inr ((x0,x1,()),(x2,x3,x4,x5,()),(x6,x7,()),(x8,x9,()),()))
def gah_250F (x:(Y12×(List (Int×Bool)×List Y2×List (Int×Bool×Bool×List (Int×Int))×List Y14×Unit)×Y9×Y9×Int×Int×Unit)):=gah_250r x.1.1 x.1.2.1 x.2.1.1 x.2.1.2.1 x.2.1.2.2.1 x.2.1.2.2.2.1 x.2.2.1.1 x.2.2.1.2.1 x.2.2.2.1.1 x.2.2.2.1.2.1 x.2.2.2.2.1 x.2.2.2.2.2.1
def gah_250 (x0:List Int) (x1:Int) (x2:List (Int×Bool)) (x3:List Y2) (x4:List (Int×Bool×Bool×List (Int×Int))) (x5:List Y14) (x6 x7 x8 x9:List Int) (x10 x11:Int):=loopL gah_250F ((x0,x1,()),(x2,x3,x4,x5,()),(x6,x7,()),(x8,x9,()),x10,x11,())
def gah (x0:List Int) (x1:Int) (x2:List (Int×Bool)) (x3:List Y2) (x4:List (Int×Bool×Bool×List (Int×Int))) (x5:List Y14):Option (Y9×(Y12×(List (Int×Bool)×List Y2×List (Int×Bool×Bool×List (Int×Int))×List Y14×Unit)×Unit)) :=
 (gab x0 x1 3).bind fun y8 =>
 (gah_122 y8.2.1.1 y8.2.1.2.1 x2 x3 x4 x5 ([]:List Int) ([]:List Int) ([]:List Int) ([]:List Int) (x3.length:Int) y8.1).bind fun z0 =>
 (gab z0.1.1 z0.1.2.1 3).bind fun y9 =>
 (gah_250 y9.2.1.1 y9.2.1.2.1 z0.2.1.1 z0.2.1.2.1 z0.2.1.2.2.1 z0.2.1.2.2.2.1 z0.2.2.1.1 z0.2.2.1.2.1 z0.2.2.2.1.1 z0.2.2.2.1.2.1 z0.2.2.2.2.1 y9.1).bind fun z1 =>
 some (z1.2.2.2.1,(z1.1,z1.2.1,()))
def gai_250r (x0 x1:Int) (x2:List Int) (x3 x4 x5 x6 x7:Int):Option ((Y8×Y16×Y16×Int×Unit) ⊕ (Y16×Y16×Unit)) :=
 bif decide (x7 < (x2.length:Int)) then
  (idx x2 x7).bind fun v0 =>
  (idx x2 x7).bind fun v1 =>
  some (.inl ((x0,x1,x2,()),(x3,x4,()),((bif decide (v0 < x5) then v0 else x5),(bif decide (v1 > x6) then v1 else x6),()),(wrap .i64 (x7 + 1)),()))
 else
  some (.inr ((x3,x4,()),(x5,x6,()),()))
def gai_250F (x:(Y8×Y16×Y16×Int×Unit)):=gai_250r x.1.1 x.1.2.1 x.1.2.2.1 x.2.1.1 x.2.1.2.1 x.2.2.1.1 x.2.2.1.2.1 x.2.2.2.1
def gai_250 (x0 x1:Int) (x2:List Int) (x3 x4 x5 x6 x7:Int):=loopL gai_250F ((x0,x1,x2,()),(x3,x4,()),(x5,x6,()),x7,())
def gai (x0 x1:Int) (x2:List Int) (x3:Int):Option (Y16×Unit) :=
 (bif ((x2.length:Int) == 0) then some true else some (decide (x3 < (-1)))).bind fun b0 =>
 (bif b0 then some true else some (decide (x3 ≥ (x2.length:Int)))).bind fun b1 =>
 bif b1 then
  some ((0,0,()),())
 else
  bif decide (x3 ≥ 0) then
   (idx x2 x3).bind fun v2 =>
   (idx x2 x3).bind fun v3 =>
   some ((v2,v3,()),())
  else
   (idx x2 0).bind fun v4 =>
   (idx x2 0).bind fun v5 =>
   (gai_250 x0 x1 x2 0 0 v4 v5 0).bind fun z0 =>
   some (z0.2.1,())
def gaj (x0 x1:Int):Option (Int×Unit) :=
 bif (!decide (x1 = 0)) then
 bif (!decide (x1 = 0)) then
 bif decide ((Int.tmod x0 x1) < 0) then
  some ((wrap .i64 ((wrap .i64 (Int.tdiv x0 x1)) - 1)),())
 else
  some ((wrap .i64 (Int.tdiv x0 x1)),())
 else none
 else none
def gak (x0 x1:Int):Option (Int×Unit) :=
 (gaj (wrap .i64 (0 - x0)) x1).bind fun y0 =>
 some ((wrap .i64 (0 - y0.1)),())
def gal_252r (x0 x1:Int) (x2 x3:Bool) (x4:List (Int×Int)) (x5 x6 x7:Int):Option ((Int×(Int×Bool×Bool×List (Int×Int)×Unit)×Y16×Int×Unit) ⊕ (Int×(Int×Bool×Bool×List (Int×Int)×Unit)×Y16×Int×Unit)) :=
 (idx x4 (wrap .i64 (x7 + 1))).bind fun v0 =>
 bif decide (v0.1≤x0) then
  some (.inl (x0,(x1,x2,x3,x4,()),(x5,x6,()),(wrap .i64 (x7 + 1)),()))
 else
  some (.inr (x0,(x1,x2,x3,x4,()),(x5,x6,()),x7,()))
def gal_252F (x:(Int×(Int×Bool×Bool×List (Int×Int)×Unit)×Y16×Int×Unit)):=gal_252r x.1 x.2.1.1 x.2.1.2.1 x.2.1.2.2.1 x.2.1.2.2.2.1 x.2.2.1.1 x.2.2.1.2.1 x.2.2.2.1
def gal_252 (x0 x1:Int) (x2 x3:Bool) (x4:List (Int×Int)) (x5 x6 x7:Int):=loopL gal_252F (x0,(x1,x2,x3,x4,()),(x5,x6,()),x7,())
def gal (x0:Int) (x1 x2:Bool) (x3:List (Int×Int)) (x4:Int):Option (Y16×Unit) :=
 (idx x3 0).bind fun v1 =>
 bif decide (x4≤v1.1) then
  (idx x3 0).bind fun v2 =>
  (idx x3 0).bind fun v3 =>
  some ((v2.2,v3.2,()),())
 else
  (idx x3 (wrap .i64 ((x3.length:Int) - 1))).bind fun v4 =>
  bif decide (x4 ≥ v4.1) then
   (idx x3 (wrap .i64 ((x3.length:Int) - 1))).bind fun v5 =>
   (idx x3 (wrap .i64 ((x3.length:Int) - 1))).bind fun v6 =>
   some ((v5.2,v6.2,()),())
  else
   (gal_252 x4 x0 x1 x2 x3 0 0 0).bind fun z0 =>
   (idx z0.2.1.2.2.2.1 z0.2.2.2.1).bind fun v7 =>
   (idx z0.2.1.2.2.2.1 (wrap .i64 (z0.2.2.2.1 + 1))).bind fun v8 =>
   (gaj (wrap .i64 ((wrap .i64 (v8.2 - v7.2)) * (wrap .i64 (z0.1 - v7.1)))) (wrap .i64 (v8.1 - v7.1))).bind fun y0 =>
   (gak (wrap .i64 ((wrap .i64 (v8.2 - v7.2)) * (wrap .i64 (z0.1 - v7.1)))) (wrap .i64 (v8.1 - v7.1))).bind fun y1 =>
   some (((wrap .i64 (v7.2 + y0.1)),(wrap .i64 (v7.2 + y1.1)),()),())
def gam (x0:Int) (x1 x2:Bool) (x3:List (Int×Int)) (x4:Bool) (x5:Int):Option (Y16×Unit) :=
 bif x4 then
  (gal x0 x1 x2 x3 (wrap .i64 (0 - x5))).bind fun y0 =>
  some (((wrap .i64 (0 - y0.1.2.1)),(wrap .i64 (0 - y0.1.1)),()),())
 else
  (gal x0 x1 x2 x3 x5).bind fun y1 =>
  some (y1.1,())
def gan (x0:Int) (x1 x2:Bool) (x3:List (Int×Int)) (x4 x5:Int):Option (Y16×Unit) :=
 bif (x4 == 0) then
  some ((0,0,()),())
 else
  bif (x4 == 1) then
   (gam x0 x1 x2 x3 x1 x5).bind fun y0 =>
   some (y0.1,())
  else
   bif (x4 == 2) then
    (gam x0 x1 x2 x3 (!x1) x5).bind fun y1 =>
    some (y1.1,())
   else
    (gam x0 x1 x2 x3 false x5).bind fun y2 =>
    (gam x0 x1 x2 x3 true x5).bind fun y3 =>
    some (((bif decide (0 < (bif decide (y3.1.1 < y2.1.1) then y3.1.1 else y2.1.1)) then 0 else (bif decide (y3.1.1 < y2.1.1) then y3.1.1 else y2.1.1)),(bif decide (0 > (bif decide (y3.1.2.1 > y2.1.2.1) then y3.1.2.1 else y2.1.2.1)) then 0 else (bif decide (y3.1.2.1 > y2.1.2.1) then y3.1.2.1 else y2.1.2.1)),()),())
def gao_14650r (x0:List Int) (x1:Int) (x2:List (Int×Bool)) (x3:List Y2) (x4:List (Int×Bool×Bool×List (Int×Int))) (x5:List Y14) (x6 x7 x8 x9:List Int) (x10:Int) (x11:Nat) (x12 x13 x14:Int):Option ((Y12×(List (Int×Bool)×List Y2×List (Int×Bool×Bool×List (Int×Int))×List Y14×Unit)×Y9×Y9×Int×Nat×Int×Int×Int×Unit) ⊕ (Y12×(List (Int×Bool)×List Y2×List (Int×Bool×Bool×List (Int×Int))×List Y14×Unit)×Y9×Y9×Int×Nat×Int×Int×Unit)) :=
 bif decide (x14 < (x5.length:Int)) then
  bif (decide (0≤x14) && decide (x14 < (x5.length:Int))) then
  (x5[x14.toNat]?).bind fun v0 =>
  bif (v0.1 == x10) then
   bif (decide (0≤x14) && decide (x14 < (x5.length:Int))) then
   (x5[x14.toNat]?).bind fun v1 =>
   (idx x7 x14).bind fun v2 =>
   (gai v1.1 v1.2.1 v1.2.2 v2).bind fun y0 =>
   some (.inl ((x0,x1,()),(x2,x3,x4,x5,()),(x6,x7,()),(x8,x9,()),x10,x11,x12,(wrap .i64 (x13 + y0.1.1)),(wrap .i64 (x14 + 1)),()))
   else none
  else
   some (.inl ((x0,x1,()),(x2,x3,x4,x5,()),(x6,x7,()),(x8,x9,()),x10,x11,x12,x13,(wrap .i64 (x14 + 1)),()))
  else none
 else
  some (.inr ((x0,x1,()),(x2,x3,x4,x5,()),(x6,x7,()),(x8,x9,()),x10,x11,x12,x13,()))
def gao_14650F (x:(Y12×(List (Int×Bool)×List Y2×List (Int×Bool×Bool×List (Int×Int))×List Y14×Unit)×Y9×Y9×Int×Nat×Int×Int×Int×Unit)):=gao_14650r x.1.1 x.1.2.1 x.2.1.1 x.2.1.2.1 x.2.1.2.2.1 x.2.1.2.2.2.1 x.2.2.1.1 x.2.2.1.2.1 x.2.2.2.1.1 x.2.2.2.1.2.1 x.2.2.2.2.1 x.2.2.2.2.2.1 x.2.2.2.2.2.2.1 x.2.2.2.2.2.2.2.1 x.2.2.2.2.2.2.2.2.1
def gao_14650 (x0:List Int) (x1:Int) (x2:List (Int×Bool)) (x3:List Y2) (x4:List (Int×Bool×Bool×List (Int×Int))) (x5:List Y14) (x6 x7 x8 x9:List Int) (x10:Int) (x11:Nat) (x12 x13 x14:Int):=loopL gao_14650F ((x0,x1,()),(x2,x3,x4,x5,()),(x6,x7,()),(x8,x9,()),x10,x11,x12,x13,x14,())
def gao_58618r (x0:List Int) (x1:Int) (x2:List (Int×Bool)) (x3:List Y2) (x4:List (Int×Bool×Bool×List (Int×Int))) (x5:List Y14) (x6 x7 x8 x9:List Int) (x10:Int) (x11:Nat) (x12 x13 x14:Int):Option ((Y12×(List (Int×Bool)×List Y2×List (Int×Bool×Bool×List (Int×Int))×List Y14×Unit)×Y9×Y9×Int×Nat×Int×Int×Int×Unit) ⊕ (Y12×(List (Int×Bool)×List Y2×List (Int×Bool×Bool×List (Int×Int))×List Y14×Unit)×Y9×Y9×Int×Nat×Int×Unit)) :=
 bif decide (x14 < (x4.length:Int)) then
  bif (decide (0≤x14) && decide (x14 < (x4.length:Int))) then
  (x4[x14.toNat]?).bind fun v3 =>
  bif (v3.1 == x10) then
   bif (decide (0≤x14) && decide (x14 < (x4.length:Int))) then
   (x4[x14.toNat]?).bind fun v4 =>
   (idx x6 x14).bind fun v5 =>
   (gan v4.1 v4.2.1 v4.2.2.1 v4.2.2.2 v5 x12).bind fun y1 =>
   some (.inl ((x0,x1,()),(x2,x3,x4,x5,()),(x6,x7,()),(x8,x9,()),x10,x11,x12,(wrap .i64 (x13 - y1.1.1)),(wrap .i64 (x14 + 1)),()))
   else none
  else
   some (.inl ((x0,x1,()),(x2,x3,x4,x5,()),(x6,x7,()),(x8,x9,()),x10,x11,x12,x13,(wrap .i64 (x14 + 1)),()))
  else none
 else
  some (.inr ((x0,x1,()),(x2,x3,x4,x5,()),(x6,x7,()),(x8,x9,()),x10,x11,x13,()))
def gao_58618F (x:(Y12×(List (Int×Bool)×List Y2×List (Int×Bool×Bool×List (Int×Int))×List Y14×Unit)×Y9×Y9×Int×Nat×Int×Int×Int×Unit)):=gao_58618r x.1.1 x.1.2.1 x.2.1.1 x.2.1.2.1 x.2.1.2.2.1 x.2.1.2.2.2.1 x.2.2.1.1 x.2.2.1.2.1 x.2.2.2.1.1 x.2.2.2.1.2.1 x.2.2.2.2.1 x.2.2.2.2.2.1 x.2.2.2.2.2.2.1 x.2.2.2.2.2.2.2.1 x.2.2.2.2.2.2.2.2.1
def gao_58618 (x0:List Int) (x1:Int) (x2:List (Int×Bool)) (x3:List Y2) (x4:List (Int×Bool×Bool×List (Int×Int))) (x5:List Y14) (x6 x7 x8 x9:List Int) (x10:Int) (x11:Nat) (x12 x13 x14:Int):=loopL gao_58618F ((x0,x1,()),(x2,x3,x4,x5,()),(x6,x7,()),(x8,x9,()),x10,x11,x12,x13,x14,())
def gao_14r (x0:List Int) (x1:Int) (x2:List (Int×Bool)) (x3:List Y2) (x4:List (Int×Bool×Bool×List (Int×Int))) (x5:List Y14) (x6 x7 x8 x9:List Int) (x10:Int):Option ((Y12×(List (Int×Bool)×List Y2×List (Int×Bool×Bool×List (Int×Int))×List Y14×Unit)×Y9×Y9×Int×Unit) ⊕ (Y12×(List (Int×Bool)×List Y2×List (Int×Bool×Bool×List (Int×Int))×List Y14×Unit)×Unit)) :=
 bif decide (x10 < (x3.length:Int)) then
  bif (decide (0≤x10) && decide (x10 < (x3.length:Int))) then
  (idx x9 x10).bind fun v6 =>
  (x3[x10.toNat]?).bind fun v7 =>
  (x3[x10.toNat]?).bind fun v8 =>
  (x3[x10.toNat]?).bind fun v9 =>
  (gab x0 x1 (wrap .i64 ((wrap .i64 (v8.2.2.2.2.2.2.2.1 - v9.2.2.2.2.2.2.1)) + 1))).bind fun y2 =>
  (gao_14650 y2.2.1.1 y2.2.1.2.1 x2 x3 x4 x5 x6 x7 x8 x9 x10 x10.toNat v6 (wrap .i64 (v7.2.2.2.2.2.2.1 + y2.1)) 0).bind fun z0 =>
  (z0.2.1.2.1[z0.2.2.2.2.2.1]?).bind fun v10 =>
  (idx z0.2.2.2.1.1 v10.1).bind fun v11 =>
  (z0.2.1.2.1[z0.2.2.2.2.2.1]?).bind fun v12 =>
  (idx z0.2.2.2.1.1 v12.2.1).bind fun v13 =>
  (gao_58618 z0.1.1 z0.1.2.1 z0.2.1.1 z0.2.1.2.1 z0.2.1.2.2.1 z0.2.1.2.2.2.1 z0.2.2.1.1 z0.2.2.1.2.1 z0.2.2.2.1.1 z0.2.2.2.1.2.1 z0.2.2.2.2.1 z0.2.2.2.2.2.1 z0.2.2.2.2.2.2.1 (wrap .i64 ((wrap .i64 ((wrap .i64 (z0.2.2.2.2.2.2.2.1 * (bif decide ((wrap .i64 (0 - z0.2.2.2.2.2.2.1)) > z0.2.2.2.2.2.2.1) then (wrap .i64 (0 - z0.2.2.2.2.2.2.1)) else z0.2.2.2.2.2.2.1))) * z0.2.2.2.2.2.2.1)) - (wrap .i64 (v11 - v13)))) 0).bind fun z1 =>
  (gab z1.1.1 z1.1.2.1 30).bind fun y3 =>
  (gab y3.2.1.1 y3.2.1.2.1 30).bind fun y4 =>
  (z1.2.1.2.1[z1.2.2.2.2.2.1]?).bind fun v14 =>
  some (.inl (y4.2.1,(z1.2.1.1,(z1.2.1.2.1).set z1.2.2.2.2.2.1 (v14.1,v14.2.1,v14.2.2.1,v14.2.2.2.1,v14.2.2.2.2.1,v14.2.2.2.2.2.1,v14.2.2.2.2.2.2.1,v14.2.2.2.2.2.2.2.1,(wrap .i64 (z1.2.2.2.2.2.2.1 - y3.1)),(wrap .i64 (z1.2.2.2.2.2.2.1 + y4.1))),z1.2.1.2.2.1,z1.2.1.2.2.2.1,()),z1.2.2.1,z1.2.2.2.1,(wrap .i64 (z1.2.2.2.2.1 + 1)),()))
  else none
 else
  some (.inr ((x0,x1,()),(x2,x3,x4,x5,()),()))
def gao_14F (x:(Y12×(List (Int×Bool)×List Y2×List (Int×Bool×Bool×List (Int×Int))×List Y14×Unit)×Y9×Y9×Int×Unit)):=gao_14r x.1.1 x.1.2.1 x.2.1.1 x.2.1.2.1 x.2.1.2.2.1 x.2.1.2.2.2.1 x.2.2.1.1 x.2.2.1.2.1 x.2.2.2.1.1 x.2.2.2.1.2.1 x.2.2.2.2.1
def gao_14 (x0:List Int) (x1:Int) (x2:List (Int×Bool)) (x3:List Y2) (x4:List (Int×Bool×Bool×List (Int×Int))) (x5:List Y14) (x6 x7 x8 x9:List Int) (x10:Int):=loopL gao_14F ((x0,x1,()),(x2,x3,x4,x5,()),(x6,x7,()),(x8,x9,()),x10,())
def gao (x0:List Int) (x1:Int) (x2:List (Int×Bool)) (x3:List Y2) (x4:List (Int×Bool×Bool×List (Int×Int))) (x5:List Y14) (x6 x7 x8 x9:List Int):Option ((Unit)×(Y12×(List (Int×Bool)×List Y2×List (Int×Bool×Bool×List (Int×Int))×List Y14×Unit)×Unit)) :=
 (gao_14 x0 x1 x2 x3 x4 x5 x6 x7 x8 x9 0).bind fun z2 =>
 some ((),z2)
def gap_3731 (x0:List Int) (x1:Int) (x2 x3 x4 x5 x6 x7:List Int) (x8 x9:Int):Option Y25 :=
 bif decide ((x6.length + 1) * 8≤140737488355328) then
 some ((x0,x1,()),(x2,x3,()),(x4,x5,()),((x6 ++ ([x9]:List Int)),x7,()),x8,())
 else none
def gap_58r (x0:List Int) (x1:Int) (x2 x3 x4 x5 x6 x7:List Int) (x8:Int):Option (Y25 ⊕ (Y12×Y9×Y9×Y9×Unit)) :=
 bif decide (x8 < (x2.length:Int)) then
  (idx x2 x8).bind fun v0 =>
  (gac x0 x1 5).bind fun y0 =>
  bif y0.1 then
   (gap_3731 y0.2.1.1 y0.2.1.2.1 x2 x3 x4 x5 x6 x7 x8 (-1)).bind fun z0 =>
   some (.inl (z0.1,z0.2.1,z0.2.2.1,z0.2.2.2.1,(wrap .i64 (z0.2.2.2.2.1 + 1)),()))
  else
   (gap_3731 y0.2.1.1 y0.2.1.2.1 x2 x3 x4 x5 x6 x7 x8 v0).bind fun z1 =>
   some (.inl (z1.1,z1.2.1,z1.2.2.1,z1.2.2.2.1,(wrap .i64 (z1.2.2.2.2.1 + 1)),()))
 else
  some (.inr ((x0,x1,()),(x2,x3,()),(x4,x5,()),(x6,x7,()),()))
def gap_58F (x:Y25):=gap_58r x.1.1 x.1.2.1 x.2.1.1 x.2.1.2.1 x.2.2.1.1 x.2.2.1.2.1 x.2.2.2.1.1 x.2.2.2.1.2.1 x.2.2.2.2.1
def gap_58 (x0:List Int) (x1:Int) (x2 x3 x4 x5 x6 x7:List Int) (x8:Int):=loopL gap_58F ((x0,x1,()),(x2,x3,()),(x4,x5,()),(x6,x7,()),x8,())
def gap_7827 (x0:List Int) (x1:Int) (x2 x3 x4 x5 x6 x7:List Int) (x8 x9:Int):Option Y25 :=
 bif decide ((x7.length + 1) * 8≤140737488355328) then
 some ((x0,x1,()),(x2,x3,()),(x4,x5,()),(x6,(x7 ++ ([x9]:List Int)),()),x8,())
 else none
def gap_122r (x0:List Int) (x1:Int) (x2 x3 x4 x5 x6 x7:List Int) (x8:Int):Option (Y25 ⊕ (Y12×Y9×Y9×Unit)) :=
 bif decide (x8 < (x3.length:Int)) then
  (idx x3 x8).bind fun v1 =>
  (gac x0 x1 5).bind fun y1 =>
  bif y1.1 then
   (gap_7827 y1.2.1.1 y1.2.1.2.1 x2 x3 x4 x5 x6 x7 x8 (-1)).bind fun z2 =>
   some (.inl (z2.1,z2.2.1,z2.2.2.1,z2.2.2.2.1,(wrap .i64 (z2.2.2.2.2.1 + 1)),()))
  else
   (gap_7827 y1.2.1.1 y1.2.1.2.1 x2 x3 x4 x5 x6 x7 x8 v1).bind fun z3 =>
   some (.inl (z3.1,z3.2.1,z3.2.2.1,z3.2.2.2.1,(wrap .i64 (z3.2.2.2.2.1 + 1)),()))
 else
  some (.inr ((x0,x1,()),(x4,x5,()),(x6,x7,()),()))
def gap_122F (x:Y25):=gap_122r x.1.1 x.1.2.1 x.2.1.1 x.2.1.2.1 x.2.2.1.1 x.2.2.1.2.1 x.2.2.2.1.1 x.2.2.2.1.2.1 x.2.2.2.2.1
def gap_122 (x0:List Int) (x1:Int) (x2 x3 x4 x5 x6 x7:List Int) (x8:Int):=loopL gap_122F ((x0,x1,()),(x2,x3,()),(x4,x5,()),(x6,x7,()),x8,())
def gap (x0:List Int) (x1:Int) (x2:List (Int×Bool)) (x3:List Y2) (x4:List (Int×Bool×Bool×List (Int×Int))) (x5:List Y14) (x6 x7:List Int):Option (Y9×(Y12×Unit)) :=
 (gap_58 x0 x1 x6 x7 ([]:List Int) ([]:List Int) ([]:List Int) ([]:List Int) 0).bind fun z4 =>
 (gap_122 z4.1.1 z4.1.2.1 z4.2.1.1 z4.2.1.2.1 z4.2.2.1.1 z4.2.2.1.2.1 z4.2.2.2.1.1 z4.2.2.2.1.2.1 0).bind fun z5 =>
 some (z5.2.2.1,(z5.1,()))
def gaq_250r (x0:List Int) (x1:Int) (x2:List (Int×Bool)) (x3:List Y2) (x4:List (Int×Bool×Bool×List (Int×Int))) (x5:List Y14) (x6 x7 x8 x9:List Int) (x10:List (Int×Bool)) (x11:List Y2) (x12:List (Int×Bool×Bool×List (Int×Int))) (x13:List Y14) (x14 x15:Int):Option ((Y12×(List (Int×Bool)×List Y2×List (Int×Bool×Bool×List (Int×Int))×List Y14×Unit)×Y9×Y9×(List (Int×Bool)×List Y2×List (Int×Bool×Bool×List (Int×Int))×List Y14×Unit)×Int×Int×Unit) ⊕ (Y12×(List (Int×Bool)×List Y2×List (Int×Bool×Bool×List (Int×Int))×List Y14×Unit)×Y9×Y9×(List (Int×Bool)×List Y2×List (Int×Bool×Bool×List (Int×Int))×List Y14×Unit)×Int×Unit)) :=
 bif decide (x15 > 0) then
  (gab x0 x1 100).bind fun y0 =>
  bif decide ((x10.length + 1) * 16≤140737488355328) then
  some (.inl (y0.2.1,(x2,x3,x4,x5,()),(x6,x7,()),(x8,x9,()),((x10 ++ ([((wrap .i64 (0 - y0.1)),false)]:List (Int×Bool))),x11,x12,x13,()),x14,(wrap .i64 (x15 - 1)),()))
  else none
 else
  some (.inr ((x0,x1,()),(x2,x3,x4,x5,()),(x6,x7,()),(x8,x9,()),(x10,x11,x12,x13,()),x14,()))
def gaq_250F (x:(Y12×(List (Int×Bool)×List Y2×List (Int×Bool×Bool×List (Int×Int))×List Y14×Unit)×Y9×Y9×(List (Int×Bool)×List Y2×List (Int×Bool×Bool×List (Int×Int))×List Y14×Unit)×Int×Int×Unit)):=gaq_250r x.1.1 x.1.2.1 x.2.1.1 x.2.1.2.1 x.2.1.2.2.1 x.2.1.2.2.2.1 x.2.2.1.1 x.2.2.1.2.1 x.2.2.2.1.1 x.2.2.2.1.2.1 x.2.2.2.2.1.1 x.2.2.2.2.1.2.1 x.2.2.2.2.1.2.2.1 x.2.2.2.2.1.2.2.2.1 x.2.2.2.2.2.1 x.2.2.2.2.2.2.1
def gaq_250 (x0:List Int) (x1:Int) (x2:List (Int×Bool)) (x3:List Y2) (x4:List (Int×Bool×Bool×List (Int×Int))) (x5:List Y14) (x6 x7 x8 x9:List Int) (x10:List (Int×Bool)) (x11:List Y2) (x12:List (Int×Bool×Bool×List (Int×Int))) (x13:List Y14) (x14 x15:Int):=loopL gaq_250F ((x0,x1,()),(x2,x3,x4,x5,()),(x6,x7,()),(x8,x9,()),(x10,x11,x12,x13,()),x14,x15,())
def gaq_2042r (x0:List Int) (x1:Int) (x2:List (Int×Bool)) (x3:List Y2) (x4:List (Int×Bool×Bool×List (Int×Int))) (x5:List Y14) (x6 x7 x8 x9:List Int) (x10:List (Int×Bool)) (x11:List Y2) (x12:List (Int×Bool×Bool×List (Int×Int))) (x13:List Y14) (x14 x15:Int) (x16 x17:List Int) (x18:Int):Option ((Y12×(List (Int×Bool)×List Y2×List (Int×Bool×Bool×List (Int×Int))×List Y14×Unit)×Y9×Y9×(List (Int×Bool)×List Y2×List (Int×Bool×Bool×List (Int×Int))×List Y14×Unit)×Int×Int×Y9×Int×Unit) ⊕ (Y12×(List (Int×Bool)×List Y2×List (Int×Bool×Bool×List (Int×Int))×List Y14×Unit)×Y9×Y9×(List (Int×Bool)×List Y2×List (Int×Bool×Bool×List (Int×Int))×List Y14×Unit)×Int×Int×Y9×Unit)) :=
 bif decide (x18 < x15) then
  (gad x0 x1 (-4000) 4000).bind fun y1 =>
  bif (decide (0≤x18) && decide (x18 < (x16.length:Int))) then
  (x16[x18.toNat]?).bind fun v0 =>
  some (.inl (y1.2.1,(x2,x3,x4,x5,()),(x6,x7,()),(x8,x9,()),(x10,x11,x12,x13,()),x14,x15,((x16).set x18.toNat y1.1,x17,()),(wrap .i64 (x18 + 1)),()))
  else none
 else
  some (.inr ((x0,x1,()),(x2,x3,x4,x5,()),(x6,x7,()),(x8,x9,()),(x10,x11,x12,x13,()),x14,x15,(x16,x17,()),()))
def gaq_2042F (x:(Y12×(List (Int×Bool)×List Y2×List (Int×Bool×Bool×List (Int×Int))×List Y14×Unit)×Y9×Y9×(List (Int×Bool)×List Y2×List (Int×Bool×Bool×List (Int×Int))×List Y14×Unit)×Int×Int×Y9×Int×Unit)):=gaq_2042r x.1.1 x.1.2.1 x.2.1.1 x.2.1.2.1 x.2.1.2.2.1 x.2.1.2.2.2.1 x.2.2.1.1 x.2.2.1.2.1 x.2.2.2.1.1 x.2.2.2.1.2.1 x.2.2.2.2.1.1 x.2.2.2.2.1.2.1 x.2.2.2.2.1.2.2.1 x.2.2.2.2.1.2.2.2.1 x.2.2.2.2.2.1 x.2.2.2.2.2.2.1 x.2.2.2.2.2.2.2.1.1 x.2.2.2.2.2.2.2.1.2.1 x.2.2.2.2.2.2.2.2.1
def gaq_2042 (x0:List Int) (x1:Int) (x2:List (Int×Bool)) (x3:List Y2) (x4:List (Int×Bool×Bool×List (Int×Int))) (x5:List Y14) (x6 x7 x8 x9:List Int) (x10:List (Int×Bool)) (x11:List Y2) (x12:List (Int×Bool×Bool×List (Int×Int))) (x13:List Y14) (x14 x15:Int) (x16 x17:List Int) (x18:Int):=loopL gaq_2042F ((x0,x1,()),(x2,x3,x4,x5,()),(x6,x7,()),(x8,x9,()),(x10,x11,x12,x13,()),x14,x15,(x16,x17,()),x18,())
def gaq_16766111 (x0:List Int) (x1:Int) (x2:List (Int×Bool)) (x3:List Y2) (x4:List (Int×Bool×Bool×List (Int×Int))) (x5:List Y14) (x6 x7 x8 x9:List Int) (x10:List (Int×Bool)) (x11:List Y2) (x12:List (Int×Bool×Bool×List (Int×Int))) (x13:List Y14) (x14 x15:Int) (x16 x17 x18:List Int) (x19 x20 x21 x22 x23:Int) (x24 x25:Bool) (x26 x27 x28 x29 x30:Int):Option (Y12×(List (Int×Bool)×List Y2×List (Int×Bool×Bool×List (Int×Int))×List Y14×Unit)×Y9×Y9×(List (Int×Bool)×List Y2×List (Int×Bool×Bool×List (Int×Int))×List Y14×Unit)×Int×Int×Y9×List Int×Int×Unit) :=
 bif decide ((x11.length + 1) * 72≤140737488355328) then
 bif decide ((x17.length + 1) * 8≤140737488355328) then
 bif (decide (0≤x20) && decide (x20 < (x18.length:Int))) then
 (x18[x20.toNat]?).bind fun v1 =>
 bif (decide (0≤x20) && decide (x20 < (x18.length:Int))) then
 (x18[x20.toNat]?).bind fun v2 =>
 bif (decide (0≤x21) && decide (x21 < (((x18).set x20.toNat (wrap .i64 (v1 + x30))).length:Int))) then
 (((x18).set x20.toNat (wrap .i64 (v1 + x30)))[x21.toNat]?).bind fun v3 =>
 bif (decide (0≤x21) && decide (x21 < (((x18).set x20.toNat (wrap .i64 (v1 + x30))).length:Int))) then
 (((x18).set x20.toNat (wrap .i64 (v1 + x30)))[x21.toNat]?).bind fun v4 =>
 some ((x0,x1,()),(x2,x3,x4,x5,()),(x6,x7,()),(x8,x9,()),(x10,(x11 ++ ([(x20,x21,x22,x23,x24,x25,x26,x27,x28,x29)]:List Y2)),x12,x13,()),x14,x15,(x16,(x17 ++ ([x30]:List Int)),()),((x18).set x20.toNat (wrap .i64 (v1 + x30))).set x21.toNat (wrap .i64 (v3 - x30)),x19,())
 else none
 else none
 else none
 else none
 else none
 else none
def gaq_32746r (x0:List Int) (x1:Int) (x2:List (Int×Bool)) (x3:List Y2) (x4:List (Int×Bool×Bool×List (Int×Int))) (x5:List Y14) (x6 x7 x8 x9:List Int) (x10:List (Int×Bool)) (x11:List Y2) (x12:List (Int×Bool×Bool×List (Int×Int))) (x13:List Y14) (x14 x15:Int) (x16 x17 x18:List Int) (x19:Int):Option ((Y12×(List (Int×Bool)×List Y2×List (Int×Bool×Bool×List (Int×Int))×List Y14×Unit)×Y9×Y9×(List (Int×Bool)×List Y2×List (Int×Bool×Bool×List (Int×Int))×List Y14×Unit)×Int×Int×Y9×List Int×Int×Unit) ⊕ (Y12×(List (Int×Bool)×List Y2×List (Int×Bool×Bool×List (Int×Int))×List Y14×Unit)×Y9×Y9×(List (Int×Bool)×List Y2×List (Int×Bool×Bool×List (Int×Int))×List Y14×Unit)×Int×Int×Y9×List Int×Unit)) :=
 bif decide (x19 > 0) then
  (gab x0 x1 x15).bind fun y2 =>
  (gab y2.2.1.1 y2.2.1.2.1 (wrap .i64 (x15 - 1))).bind fun y3 =>
  bif (!decide (x15 = 0)) then
  (gae y3.2.1.1 y3.2.1.2.1 y2.1 (Int.tmod (wrap .i64 ((wrap .i64 (y2.1 + 1)) + y3.1)) x15)).bind fun y4 =>
  (gac y4.2.1.1 y4.2.1.2.1 7).bind fun y5 =>
  (gad y5.2.1.1 y5.2.1.2.1 (-60) 60).bind fun y6 =>
  bif y5.1 then
   (gaq_16766111 y6.2.1.1 y6.2.1.2.1 x2 x3 x4 x5 x6 x7 x8 x9 x10 x11 x12 x13 x14 x15 x16 x17 x18 x19 y4.1.1 y4.1.2.1 y4.1.2.2.1 y4.1.2.2.2.1 y4.1.2.2.2.2.1 y5.1 y4.1.2.2.2.2.2.2.1 y4.1.2.2.2.2.2.2.2.1 y4.1.2.2.2.2.2.2.2.2.1 y4.1.2.2.2.2.2.2.2.2.2.1 0).bind fun z0 =>
   some (.inl (z0.1,z0.2.1,z0.2.2.1,z0.2.2.2.1,z0.2.2.2.2.1,z0.2.2.2.2.2.1,z0.2.2.2.2.2.2.1,z0.2.2.2.2.2.2.2.1,z0.2.2.2.2.2.2.2.2.1,(wrap .i64 (z0.2.2.2.2.2.2.2.2.2.1 - 1)),()))
  else
   (gaq_16766111 y6.2.1.1 y6.2.1.2.1 x2 x3 x4 x5 x6 x7 x8 x9 x10 x11 x12 x13 x14 x15 x16 x17 x18 x19 y4.1.1 y4.1.2.1 y4.1.2.2.1 y4.1.2.2.2.1 y4.1.2.2.2.2.1 y5.1 y4.1.2.2.2.2.2.2.1 y4.1.2.2.2.2.2.2.2.1 y4.1.2.2.2.2.2.2.2.2.1 y4.1.2.2.2.2.2.2.2.2.2.1 y6.1).bind fun z1 =>
   some (.inl (z1.1,z1.2.1,z1.2.2.1,z1.2.2.2.1,z1.2.2.2.2.1,z1.2.2.2.2.2.1,z1.2.2.2.2.2.2.1,z1.2.2.2.2.2.2.2.1,z1.2.2.2.2.2.2.2.2.1,(wrap .i64 (z1.2.2.2.2.2.2.2.2.2.1 - 1)),()))
  else none
 else
  some (.inr ((x0,x1,()),(x2,x3,x4,x5,()),(x6,x7,()),(x8,x9,()),(x10,x11,x12,x13,()),x14,x15,(x16,x17,()),x18,()))
def gaq_32746F (x:(Y12×(List (Int×Bool)×List Y2×List (Int×Bool×Bool×List (Int×Int))×List Y14×Unit)×Y9×Y9×(List (Int×Bool)×List Y2×List (Int×Bool×Bool×List (Int×Int))×List Y14×Unit)×Int×Int×Y9×List Int×Int×Unit)):=gaq_32746r x.1.1 x.1.2.1 x.2.1.1 x.2.1.2.1 x.2.1.2.2.1 x.2.1.2.2.2.1 x.2.2.1.1 x.2.2.1.2.1 x.2.2.2.1.1 x.2.2.2.1.2.1 x.2.2.2.2.1.1 x.2.2.2.2.1.2.1 x.2.2.2.2.1.2.2.1 x.2.2.2.2.1.2.2.2.1 x.2.2.2.2.2.1 x.2.2.2.2.2.2.1 x.2.2.2.2.2.2.2.1.1 x.2.2.2.2.2.2.2.1.2.1 x.2.2.2.2.2.2.2.2.1 x.2.2.2.2.2.2.2.2.2.1
def gaq_32746 (x0:List Int) (x1:Int) (x2:List (Int×Bool)) (x3:List Y2) (x4:List (Int×Bool×Bool×List (Int×Int))) (x5:List Y14) (x6 x7 x8 x9:List Int) (x10:List (Int×Bool)) (x11:List Y2) (x12:List (Int×Bool×Bool×List (Int×Int))) (x13:List Y14) (x14 x15:Int) (x16 x17 x18:List Int) (x19:Int):=loopL gaq_32746F ((x0,x1,()),(x2,x3,x4,x5,()),(x6,x7,()),(x8,x9,()),(x10,x11,x12,x13,()),x14,x15,(x16,x17,()),x18,x19,())
def gaq_1048211 (x0:List Int) (x1:Int) (x2:List (Int×Bool)) (x3:List Y2) (x4:List (Int×Bool×Bool×List (Int×Int))) (x5:List Y14) (x6 x7 x8 x9:List Int) (x10:List (Int×Bool)) (x11:List Y2) (x12:List (Int×Bool×Bool×List (Int×Int))) (x13:List Y14) (x14 x15:Int) (x16 x17 x18:List Int) (x19 x20 x21 x22 x23:Int) (x24 x25:Bool) (x26 x27 x28 x29 x30:Int):Option (Y12×(List (Int×Bool)×List Y2×List (Int×Bool×Bool×List (Int×Int))×List Y14×Unit)×Y9×Y9×(List (Int×Bool)×List Y2×List (Int×Bool×Bool×List (Int×Int))×List Y14×Unit)×Int×Int×Y9×List Int×Int×Unit) :=
 bif decide ((x11.length + 1) * 72≤140737488355328) then
 bif decide ((x17.length + 1) * 8≤140737488355328) then
 some ((x0,x1,()),(x2,x3,x4,x5,()),(x6,x7,()),(x8,x9,()),(x10,(x11 ++ ([(x20,x21,x22,x23,x24,x25,x26,x27,x28,x29)]:List Y2)),x12,x13,()),x14,x15,(x16,(x17 ++ ([x30]:List Int)),()),x18,x19,())
 else none
 else none
def gaq_16378r (x0:List Int) (x1:Int) (x2:List (Int×Bool)) (x3:List Y2) (x4:List (Int×Bool×Bool×List (Int×Int))) (x5:List Y14) (x6 x7 x8 x9:List Int) (x10:List (Int×Bool)) (x11:List Y2) (x12:List (Int×Bool×Bool×List (Int×Int))) (x13:List Y14) (x14 x15:Int) (x16 x17 x18:List Int) (x19:Int):Option ((Y12×(List (Int×Bool)×List Y2×List (Int×Bool×Bool×List (Int×Int))×List Y14×Unit)×Y9×Y9×(List (Int×Bool)×List Y2×List (Int×Bool×Bool×List (Int×Int))×List Y14×Unit)×Int×Int×Y9×List Int×Int×Unit) ⊕ (Y12×(List (Int×Bool)×List Y2×List (Int×Bool×Bool×List (Int×Int))×List Y14×Unit)×Y9×Y9×(List (Int×Bool)×List Y2×List (Int×Bool×Bool×List (Int×Int))×List Y14×Unit)×Y9×Unit)) :=
 bif decide (x19 < x15) then
  (gab x0 x1 x14).bind fun y7 =>
  (gae y7.2.1.1 y7.2.1.2.1 x19 y7.1).bind fun y8 =>
  bif (decide (0≤x19) && decide (x19 < (x18.length:Int))) then
  (x18[x19.toNat]?).bind fun v5 =>
  (gac y8.2.1.1 y8.2.1.2.1 2).bind fun y9 =>
  bif y9.1 then
   (gaq_1048211 y9.2.1.1 y9.2.1.2.1 x2 x3 x4 x5 x6 x7 x8 x9 x10 x11 x12 x13 x14 x15 x16 x17 x18 x19 y8.1.2.1 y8.1.1 y8.1.2.2.1 y8.1.2.2.2.1 y8.1.2.2.2.2.1 y8.1.2.2.2.2.2.1 y8.1.2.2.2.2.2.2.1 y8.1.2.2.2.2.2.2.2.1 y8.1.2.2.2.2.2.2.2.2.1 y8.1.2.2.2.2.2.2.2.2.2.1 (wrap .i64 (0 - (wrap .i64 (0 - v5))))).bind fun z2 =>
   some (.inl (z2.1,z2.2.1,z2.2.2.1,z2.2.2.2.1,z2.2.2.2.2.1,z2.2.2.2.2.2.1,z2.2.2.2.2.2.2.1,z2.2.2.2.2.2.2.2.1,z2.2.2.2.2.2.2.2.2.1,(wrap .i64 (z2.2.2.2.2.2.2.2.2.2.1 + 1)),()))
  else
   (gaq_1048211 y9.2.1.1 y9.2.1.2.1 x2 x3 x4 x5 x6 x7 x8 x9 x10 x11 x12 x13 x14 x15 x16 x17 x18 x19 y8.1.1 y8.1.2.1 y8.1.2.2.1 y8.1.2.2.2.1 y8.1.2.2.2.2.1 y8.1.2.2.2.2.2.1 y8.1.2.2.2.2.2.2.1 y8.1.2.2.2.2.2.2.2.1 y8.1.2.2.2.2.2.2.2.2.1 y8.1.2.2.2.2.2.2.2.2.2.1 (wrap .i64 (0 - v5))).bind fun z3 =>
   some (.inl (z3.1,z3.2.1,z3.2.2.1,z3.2.2.2.1,z3.2.2.2.2.1,z3.2.2.2.2.2.1,z3.2.2.2.2.2.2.1,z3.2.2.2.2.2.2.2.1,z3.2.2.2.2.2.2.2.2.1,(wrap .i64 (z3.2.2.2.2.2.2.2.2.2.1 + 1)),()))
  else none
 else
  some (.inr ((x0,x1,()),(x2,x3,x4,x5,()),(x6,x7,()),(x8,x9,()),(x10,x11,x12,x13,()),(x16,x17,()),()))
def gaq_16378F (x:(Y12×(List (Int×Bool)×List Y2×List (Int×Bool×Bool×List (Int×Int))×List Y14×Unit)×Y9×Y9×(List (Int×Bool)×List Y2×List (Int×Bool×Bool×List (Int×Int))×List Y14×Unit)×Int×Int×Y9×List Int×Int×Unit)):=gaq_16378r x.1.1 x.1.2.1 x.2.1.1 x.2.1.2.1 x.2.1.2.2.1 x.2.1.2.2.2.1 x.2.2.1.1 x.2.2.1.2.1 x.2.2.2.1.1 x.2.2.2.1.2.1 x.2.2.2.2.1.1 x.2.2.2.2.1.2.1 x.2.2.2.2.1.2.2.1 x.2.2.2.2.1.2.2.2.1 x.2.2.2.2.2.1 x.2.2.2.2.2.2.1 x.2.2.2.2.2.2.2.1.1 x.2.2.2.2.2.2.2.1.2.1 x.2.2.2.2.2.2.2.2.1 x.2.2.2.2.2.2.2.2.2.1
def gaq_16378 (x0:List Int) (x1:Int) (x2:List (Int×Bool)) (x3:List Y2) (x4:List (Int×Bool×Bool×List (Int×Int))) (x5:List Y14) (x6 x7 x8 x9:List Int) (x10:List (Int×Bool)) (x11:List Y2) (x12:List (Int×Bool×Bool×List (Int×Int))) (x13:List Y14) (x14 x15:Int) (x16 x17 x18:List Int) (x19:Int):=loopL gaq_16378F ((x0,x1,()),(x2,x3,x4,x5,()),(x6,x7,()),(x8,x9,()),(x10,x11,x12,x13,()),x14,x15,(x16,x17,()),x18,x19,())
def gaq_2047 (x0:List Int) (x1:Int) (x2:List (Int×Bool)) (x3:List Y2) (x4:List (Int×Bool×Bool×List (Int×Int))) (x5:List Y14) (x6 x7 x8 x9:List Int) (x10:List (Int×Bool)) (x11:List Y2) (x12:List (Int×Bool×Bool×List (Int×Int))) (x13:List Y14) (x14 x15:Int) (x16 x17 x18:List Int):Option (Y12×(List (Int×Bool)×List Y2×List (Int×Bool×Bool×List (Int×Int))×List Y14×Unit)×Y9×Y9×Unit) :=
 (gaq_16378 x0 x1 x2 x3 x4 x5 x6 x7 x8 x9 x10 x11 x12 x13 x14 x15 x16 x17 x18 x14).bind fun z4 =>
 (gah z4.1.1 z4.1.2.1 z4.2.2.2.2.1.1 z4.2.2.2.2.1.2.1 z4.2.2.2.2.1.2.2.1 z4.2.2.2.2.1.2.2.2.1).bind fun y10 =>
 (gao y10.2.1.1 y10.2.1.2.1 y10.2.2.1.1 y10.2.2.1.2.1 y10.2.2.1.2.2.1 y10.2.2.1.2.2.2.1 y10.1.1 y10.1.2.1 z4.2.2.2.2.2.1.1 z4.2.2.2.2.2.1.2.1).bind fun y11 =>
 (gap y11.2.1.1 y11.2.1.2.1 y11.2.2.1.1 y11.2.2.1.2.1 y11.2.2.1.2.2.1 y11.2.2.1.2.2.2.1 y10.1.1 y10.1.2.1).bind fun y12 =>
 some (y12.2.1,y11.2.2.1,y12.1,z4.2.2.2.2.2.1,())
def gaq_15 (x0:List Int) (x1:Int) (x2:List (Int×Bool)) (x3:List Y2) (x4:List (Int×Bool×Bool×List (Int×Int))) (x5:List Y14) (x6 x7 x8 x9:List Int) (x10:List (Int×Bool)) (x11:List Y2) (x12:List (Int×Bool×Bool×List (Int×Int))) (x13:List Y14):Option (Y12×(List (Int×Bool)×List Y2×List (Int×Bool×Bool×List (Int×Int))×List Y14×Unit)×Y9×Y9×Unit) :=
 (gab x0 x1 5).bind fun y13 =>
 (gaq_250 y13.2.1.1 y13.2.1.2.1 x2 x3 x4 x5 x6 x7 x8 x9 x10 x11 x12 x13 (x10.length:Int) y13.1).bind fun z5 =>
 bif (decide (0≤(z5.2.2.2.2.1.1.length:Int)) && (decide ((z5.2.2.2.2.1.1.length:Int)≤(z5.2.2.2.2.1.1.length:Int)) && decide ((z5.2.2.2.2.1.1.length:Int) * ((8:Nat):Int)≤((140737488355328:Nat):Int)))) then
 (gaq_2042 z5.1.1 z5.1.2.1 z5.2.1.1 z5.2.1.2.1 z5.2.1.2.2.1 z5.2.1.2.2.2.1 z5.2.2.1.1 z5.2.2.1.2.1 z5.2.2.2.1.1 z5.2.2.2.1.2.1 z5.2.2.2.2.1.1 z5.2.2.2.2.1.2.1 z5.2.2.2.2.1.2.2.1 z5.2.2.2.2.1.2.2.2.1 z5.2.2.2.2.2.1 (z5.2.2.2.2.1.1.length:Int) (List.replicate (z5.2.2.2.2.1.1.length:Int).toNat (0:Int)) ([]:List Int) z5.2.2.2.2.2.1).bind fun z6 =>
 bif (decide (0≤z6.2.2.2.2.2.2.1) && (decide (z6.2.2.2.2.2.2.1≤z6.2.2.2.2.2.2.1) && decide (z6.2.2.2.2.2.2.1 * ((8:Nat):Int)≤((140737488355328:Nat):Int)))) then
 bif decide (z6.2.2.2.2.2.2.1 > 1) then
  (gab z6.1.1 z6.1.2.1 6).bind fun y14 =>
  (gaq_32746 y14.2.1.1 y14.2.1.2.1 z6.2.1.1 z6.2.1.2.1 z6.2.1.2.2.1 z6.2.1.2.2.2.1 z6.2.2.1.1 z6.2.2.1.2.1 z6.2.2.2.1.1 z6.2.2.2.1.2.1 z6.2.2.2.2.1.1 z6.2.2.2.2.1.2.1 z6.2.2.2.2.1.2.2.1 z6.2.2.2.2.1.2.2.2.1 z6.2.2.2.2.2.1 z6.2.2.2.2.2.2.1 z6.2.2.2.2.2.2.2.1.1 z6.2.2.2.2.2.2.2.1.2.1 (List.replicate z6.2.2.2.2.2.2.1.toNat (0:Int)) y14.1).bind fun z7 =>
  (gaq_2047 z7.1.1 z7.1.2.1 z7.2.1.1 z7.2.1.2.1 z7.2.1.2.2.1 z7.2.1.2.2.2.1 z7.2.2.1.1 z7.2.2.1.2.1 z7.2.2.2.1.1 z7.2.2.2.1.2.1 z7.2.2.2.2.1.1 z7.2.2.2.2.1.2.1 z7.2.2.2.2.1.2.2.1 z7.2.2.2.2.1.2.2.2.1 z7.2.2.2.2.2.1 z7.2.2.2.2.2.2.1 z7.2.2.2.2.2.2.2.1.1 z7.2.2.2.2.2.2.2.1.2.1 z7.2.2.2.2.2.2.2.2.1).bind fun z8 =>
  some z8
 else
  (gaq_2047 z6.1.1 z6.1.2.1 z6.2.1.1 z6.2.1.2.1 z6.2.1.2.2.1 z6.2.1.2.2.2.1 z6.2.2.1.1 z6.2.2.1.2.1 z6.2.2.2.1.1 z6.2.2.2.1.2.1 z6.2.2.2.2.1.1 z6.2.2.2.2.1.2.1 z6.2.2.2.2.1.2.2.1 z6.2.2.2.2.1.2.2.2.1 z6.2.2.2.2.2.1 z6.2.2.2.2.2.2.1 z6.2.2.2.2.2.2.2.1.1 z6.2.2.2.2.2.2.2.1.2.1 (List.replicate z6.2.2.2.2.2.2.1.toNat (0:Int))).bind fun z9 =>
  some z9
 else none
 else none
def gaq (x0:List Int) (x1:Int):Option (((List (Int×Bool)×List Y2×List (Int×Bool×Bool×List (Int×Int))×List Y14×Unit)×Y9×Y9×Unit)×(Y12×Unit)) :=
 (gac x0 x1 3).bind fun y15 =>
 bif y15.1 then
  (gaq_15 y15.2.1.1 y15.2.1.2.1 ([]:List (Int×Bool)) ([]:List Y2) ([]:List (Int×Bool×Bool×List (Int×Int))) ([]:List Y14) ([]:List Int) ([]:List Int) ([]:List Int) ([]:List Int) ([(0,true),(10,true)]:List (Int×Bool)) ([]:List Y2) ([]:List (Int×Bool×Bool×List (Int×Int))) ([]:List Y14)).bind fun z10 =>
  some (z10.2,(z10.1,()))
 else
  (gaq_15 y15.2.1.1 y15.2.1.2.1 ([]:List (Int×Bool)) ([]:List Y2) ([]:List (Int×Bool×Bool×List (Int×Int))) ([]:List Y14) ([]:List Int) ([]:List Int) ([]:List Int) ([]:List Int) ([(0,true)]:List (Int×Bool)) ([]:List Y2) ([]:List (Int×Bool×Bool×List (Int×Int))) ([]:List Y14)).bind fun z11 =>
  some (z11.2,(z11.1,()))
def gar (x0:Int):Option (Bool×Unit) :=
 some (decide (x0 ≥ 4),())
def gas (x0:List Int) (x1 x2 x3 x4:Int):Option (Y3×(Y12×Unit)) :=
 (gad x0 x1 1 200).bind fun y0 =>
 (gar x2).bind fun y1 =>
 bif (!y1.1) then
  (gad y0.2.1.1 y0.2.1.2.1 (-50) 20).bind fun y2 =>
  (gad y2.2.1.1 y2.2.1.2.1 300 2000).bind fun y3 =>
  (gab y3.2.1.1 y3.2.1.2.1 6).bind fun y4 =>
  (gab y4.2.1.1 y4.2.1.2.1 700).bind fun y5 =>
  some ((x3,x2,x4,y2.1,y3.1,y4.1,y5.1,y0.1,()),y5.2)
 else
  some ((x3,x2,x4,0,1000,0,0,y0.1,()),y0.2)
def gat (x0:List Int) (x1:Int):Option ((Int×Int×Int×Unit)×(Y12×Unit)) :=
 (gad x0 x1 1 120).bind fun y0 =>
 (gab y0.2.1.1 y0.2.1.2.1 12).bind fun y1 =>
 (gab y1.2.1.1 y1.2.1.2.1 y0.1).bind fun y2 =>
 some ((y0.1,y2.1,y1.1,()),y2.2)
def gau_466r (x0:List Int) (x1:Int) (x2:List (Int×Bool)) (x3:List Y2) (x4:List (Int×Bool×Bool×List (Int×Int))) (x5:List Y14) (x6:List Y4) (x7:List Y6) (x8:List Y26) (x9:List Int) (x10 x11 x12 x13 x14 x15 x16 x17 x18 x19 x20 x21 x22:Int):Option ((Y12×(List (Int×Bool)×List Y2×List (Int×Bool×Bool×List (Int×Int))×List Y14×List Y4×List Y6×List Y26×List Int×Unit)×Y5×Y5×Int×Unit) ⊕ (Y30 ⊕ (Y12×(List (Int×Bool)×List Y2×List (Int×Bool×Bool×List (Int×Int))×List Y14×List Y4×List Y6×List Y26×List Int×Unit)×Y5×Y5×Unit))) :=
 bif decide (x22 < (x6.length:Int)) then
  (idx x6 x22).bind fun v0 =>
  bif (v0.2.1 == 5) then
   some (.inr (.inl ((x0,x1,()),(x16,x22,x18,x19,x20,x21,()),())))
  else
   some (.inl ((x0,x1,()),(x2,x3,x4,x5,x6,x7,x8,x9,()),(x10,x11,x12,x13,x14,x15,()),(x16,x17,x18,x19,x20,x21,()),(wrap .i64 (x22 + 1)),()))
 else
  some (.inr (.inr ((x0,x1,()),(x2,x3,x4,x5,x6,x7,x8,x9,()),(x10,x11,x12,x13,x14,x15,()),(x16,x17,x18,x19,x20,x21,()),())))
def gau_466F (x:(Y12×(List (Int×Bool)×List Y2×List (Int×Bool×Bool×List (Int×Int))×List Y14×List Y4×List Y6×List Y26×List Int×Unit)×Y5×Y5×Int×Unit)):=gau_466r x.1.1 x.1.2.1 x.2.1.1 x.2.1.2.1 x.2.1.2.2.1 x.2.1.2.2.2.1 x.2.1.2.2.2.2.1 x.2.1.2.2.2.2.2.1 x.2.1.2.2.2.2.2.2.1 x.2.1.2.2.2.2.2.2.2.1 x.2.2.1.1 x.2.2.1.2.1 x.2.2.1.2.2.1 x.2.2.1.2.2.2.1 x.2.2.1.2.2.2.2.1 x.2.2.1.2.2.2.2.2.1 x.2.2.2.1.1 x.2.2.2.1.2.1 x.2.2.2.1.2.2.1 x.2.2.2.1.2.2.2.1 x.2.2.2.1.2.2.2.2.1 x.2.2.2.1.2.2.2.2.2.1 x.2.2.2.2.1
def gau_466 (x0:List Int) (x1:Int) (x2:List (Int×Bool)) (x3:List Y2) (x4:List (Int×Bool×Bool×List (Int×Int))) (x5:List Y14) (x6:List Y4) (x7:List Y6) (x8:List Y26) (x9:List Int) (x10 x11 x12 x13 x14 x15 x16 x17 x18 x19 x20 x21 x22:Int):=loopL gau_466F ((x0,x1,()),(x2,x3,x4,x5,x6,x7,x8,x9,()),(x10,x11,x12,x13,x14,x15,()),(x16,x17,x18,x19,x20,x21,()),x22,())
def gau_127 (x0:List Int) (x1 x2 x3 x4 x5 x6 x7 x8 x9 x10 x11 x12 x13 x14:Int):Option Y30 :=
 (gab x0 x1 x14).bind fun y0 =>
 some (y0.2.1,(x8,y0.1,x10,x11,x12,x13,()),())
def gau_63 (x0:List Int) (x1 x2 x3 x4 x5 x6 x7 x8 x9 x10 x11 x12 x13 x14:Int):Option Y30 :=
 bif (x14 == 0) then
  (gau_127 x0 x1 x2 x3 x4 x5 x6 x7 x8 x9 x10 x11 x12 x13 1).bind fun z0 =>
  some z0
 else
  (gau_127 x0 x1 x2 x3 x4 x5 x6 x7 x8 x9 x10 x11 x12 x13 x14).bind fun z1 =>
  some z1
def gau_15 (x0:List Int) (x1:Int) (x2:List (Int×Bool)) (x3:List Y2) (x4:List (Int×Bool×Bool×List (Int×Int))) (x5:List Y14) (x6:List Y4) (x7:List Y6) (x8:List Y26) (x9:List Int) (x10 x11 x12 x13 x14 x15 x16 x17 x18 x19 x20 x21:Int):Option Y30 :=
 bif (x16 == 5) then
  (gau_63 x0 x1 x10 x11 x12 x13 x14 x15 x16 x17 x18 x19 x20 x21 (x3.length:Int)).bind fun z2 =>
  some z2
 else
  (gau_63 x0 x1 x10 x11 x12 x13 x14 x15 x16 x17 x18 x19 x20 x21 (x6.length:Int)).bind fun z3 =>
  some z3
def gau (x0:List Int) (x1:Int) (x2:List (Int×Bool)) (x3:List Y2) (x4:List (Int×Bool×Bool×List (Int×Int))) (x5:List Y14) (x6:List Y4) (x7:List Y6) (x8:List Y26) (x9:List Int):Option (Y5×(Y12×Unit)) :=
 (gad x0 x1 1 5).bind fun y1 =>
 (gad y1.2.1.1 y1.2.1.2.1 0 60).bind fun y2 =>
 (gat y2.2.1.1 y2.2.1.2.1).bind fun y3 =>
 bif (y1.1 == 3) then
  (gau_466 y3.2.1.1 y3.2.1.2.1 x2 x3 x4 x5 x6 x7 x8 x9 0 0 0 0 0 0 y1.1 0 y2.1 y3.1.1 y3.1.2.1 y3.1.2.2.1 0).bind fun z4 =>
  sumElim z4 (fun z5 =>
   some (z5.2.1,(z5.1,())))
   (fun z6 =>
   (gau_15 z6.1.1 z6.1.2.1 z6.2.1.1 z6.2.1.2.1 z6.2.1.2.2.1 z6.2.1.2.2.2.1 z6.2.1.2.2.2.2.1 z6.2.1.2.2.2.2.2.1 z6.2.1.2.2.2.2.2.2.1 z6.2.1.2.2.2.2.2.2.2.1 z6.2.2.1.1 z6.2.2.1.2.1 z6.2.2.1.2.2.1 z6.2.2.1.2.2.2.1 z6.2.2.1.2.2.2.2.1 z6.2.2.1.2.2.2.2.2.1 1 z6.2.2.2.1.2.1 z6.2.2.2.1.2.2.1 z6.2.2.2.1.2.2.2.1 z6.2.2.2.1.2.2.2.2.1 z6.2.2.2.1.2.2.2.2.2.1).bind fun z7 =>
   some (z7.2.1,(z7.1,())))
 else
  (gau_15 y3.2.1.1 y3.2.1.2.1 x2 x3 x4 x5 x6 x7 x8 x9 0 0 0 0 0 0 y1.1 0 y2.1 y3.1.1 y3.1.2.1 y3.1.2.2.1).bind fun z8 =>
  some (z8.2.1,(z8.1,()))
def gav_16201 (rec:Y28→Option (List Y13×(Y12×Unit))) (x0:List Int) (x1:Int) (x2 x3:List Y13) (x4:Int):Option Y20 :=
 bif (decide (0≤x4) && decide (x4 < (x3.length:Int))) then
 (x3[x4.toNat]?).bind fun v0 =>
 (bif (v0.1 == 3) then some true else (bif (decide (0≤x4) && decide (x4 < (x3.length:Int))) then ((x3[x4.toNat]?).bind fun v1 => some (v1.1 == 4)) else none)).bind fun b0 =>
 bif b0 then
  bif (decide (0≤x4) && decide (x4 < (x3.length:Int))) then
  (x3[x4.toNat]?).bind fun v2 =>
  bif (decide (0≤x4) && decide (x4 < (x3.length:Int))) then
  (x3[x4.toNat]?).bind fun v3 =>
  some ((x0,x1,()),x2,(x3).set x4.toNat (v3.1,v3.2.1,v3.2.2.1,(wrap .i64 (v2.2.2.2 + (x2.length:Int)))),x4,())
  else none
  else none
 else
  some ((x0,x1,()),x2,x3,x4,())
 else none
def gav_506r (rec:Y28→Option (List Y13×(Y12×Unit))) (x0:List Int) (x1:Int) (x2 x3:List Y13) (x4:Int):Option (Y20 ⊕ Y23) :=
 bif decide (x4 < (x3.length:Int)) then
  bif (decide (0≤x4) && decide (x4 < (x3.length:Int))) then
  (x3[x4.toNat]?).bind fun v4 =>
  bif (v4.1 != 1) then
   bif (decide (0≤x4) && decide (x4 < (x3.length:Int))) then
   (x3[x4.toNat]?).bind fun v5 =>
   bif (decide (0≤x4) && decide (x4 < (x3.length:Int))) then
   (x3[x4.toNat]?).bind fun v6 =>
   (gav_16201 rec x0 x1 x2 ((x3).set x4.toNat (v6.1,v6.2.1,(wrap .i64 (v5.2.2.1 + (x2.length:Int))),v6.2.2.2)) x4).bind fun z0 =>
   some (.inl (z0.1,z0.2.1,z0.2.2.1,(wrap .i64 (z0.2.2.2.1 + 1)),()))
   else none
   else none
  else
   (gav_16201 rec x0 x1 x2 x3 x4).bind fun z1 =>
   some (.inl (z1.1,z1.2.1,z1.2.2.1,(wrap .i64 (z1.2.2.2.1 + 1)),()))
  else none
 else
  some (.inr ((x0,x1,()),x2,x3,()))
def gav_506F (rec:Y28→Option (List Y13×(Y12×Unit))) (x:Y20):Option (Y20 ⊕ Y23):=gav_506r rec x.1.1 x.1.2.1 x.2.1 x.2.2.1 x.2.2.2.1
def gav_506 (rec:Y28→Option (List Y13×(Y12×Unit))) (x0:List Int) (x1:Int) (x2 x3:List Y13) (x4:Int):Option Y23:=loopL (gav_506F rec) ((x0,x1,()),x2,x3,x4,())
def gavb (rec:Y28→Option (List Y13×(Y12×Unit))) (x0:List Int) (x1 x2 x3:Int):Option (List Y13×(Y12×Unit)) :=
 bif decide (x3 < 1) then
  (gab x0 x1 x2).bind fun y0 =>
  some (([(1,y0.1,0,0)]:List Y13),y0.2)
 else
  (gab x0 x1 3).bind fun y1 =>
  bif (y1.1 == 0) then
   (gab y1.2.1.1 y1.2.1.2.1 x2).bind fun y2 =>
   some (([(1,y2.1,0,0)]:List Y13),y2.2)
  else
   (rec (y1.2.1,x2,(wrap .i64 (x3 - 1)),())).bind fun y3 =>
   (gac y3.2.1.1 y3.2.1.2.1 4).bind fun y4 =>
   bif y4.1 then
    bif decide ((y3.1.length + 1) * 32≤140737488355328) then
    some ((y3.1 ++ ([(2,0,(wrap .i64 ((y3.1.length:Int) - 1)),0)]:List Y13)),y4.2)
    else none
   else
    (rec (y4.2.1,x2,(wrap .i64 (x3 - 1)),())).bind fun y5 =>
    (gav_506 rec y5.2.1.1 y5.2.1.2.1 y3.1 y5.1 0).bind fun z2 =>
    bif decide ((z2.2.1.length + z2.2.2.1.length) * 32≤140737488355328) then
    (gad z2.1.1 z2.1.2.1 3 4).bind fun y6 =>
    bif decide (((z2.2.1 ++ z2.2.2.1).length + 1) * 32≤140737488355328) then
    some (((z2.2.1 ++ z2.2.2.1) ++ ([(y6.1,0,(wrap .i64 ((z2.2.1.length:Int) - 1)),(wrap .i64 ((wrap .i64 ((z2.2.1.length:Int) + (z2.2.2.1.length:Int))) - 1)))]:List Y13)),y6.2)
    else none
    else none
def gavi:Nat→Y28→Option (List Y13×(Y12×Unit))
 | 0 => fun _ => none
 | n + 1 => fun x => gavb (gavi n) x.1.1 x.1.2.1 x.2.1 x.2.2.1
def gav (x0:List Int) (x1 x2 x3:Int):Option (List Y13×(Y12×Unit)):=gavi 1000000 ((x0,x1,()),x2,x3,())
def gaw_506r (x0:List Int) (x1:Int) (x2:List (Int×Bool)) (x3:List Y2) (x4:List (Int×Bool×Bool×List (Int×Int))) (x5:List Y14) (x6:List Y4) (x7:List Y6) (x8:List Y26) (x9 x10 x11 x12 x13:List Int) (x14:List Y2) (x15:List (Int×Bool×Bool×List (Int×Int))) (x16:List Y14) (x17 x18 x19 x20:List Int) (x21:List (Int×Bool)) (x22:List Y2) (x23:List (Int×Bool×Bool×List (Int×Int))) (x24:List Y14) (x25:List Y4) (x26:List Y6) (x27:List Y26) (x28:List Int) (x29 x30:Int):Option ((Y12×(List (Int×Bool)×List Y2×List (Int×Bool×Bool×List (Int×Int))×List Y14×List Y4×List Y6×List Y26×List Int×Unit)×Y9×Y9×(Unit×List Y2×List (Int×Bool×Bool×List (Int×Int))×List Y14×Unit)×Y9×Y9×(List (Int×Bool)×List Y2×List (Int×Bool×Bool×List (Int×Int))×List Y14×List Y4×List Y6×List Y26×List Int×Unit)×Int×Int×Unit) ⊕ (Y12×(List (Int×Bool)×List Y2×List (Int×Bool×Bool×List (Int×Int))×List Y14×List Y4×List Y6×List Y26×List Int×Unit)×Y9×Y9×(Unit×List Y2×List (Int×Bool×Bool×List (Int×Int))×List Y14×Unit)×Y9×Y9×(List (Int×Bool)×List Y2×List (Int×Bool×Bool×List (Int×Int))×List Y14×List Y4×List Y6×List Y26×List Int×Unit)×Int×Unit)) :=
 bif decide (x30 > 0) then
  (gad x0 x1 1 4).bind fun y0 =>
  (gab y0.2.1.1 y0.2.1.2.1 x29).bind fun y1 =>
  (gas y1.2.1.1 y1.2.1.2.1 y0.1 (x25.length:Int) y1.1).bind fun y2 =>
  bif decide ((x25.length + 1) * 64≤140737488355328) then
  some (.inl (y2.2.1,(x2,x3,x4,x5,x6,x7,x8,x9,()),(x10,x11,()),(x12,x13,()),((),x14,x15,x16,()),(x17,x18,()),(x19,x20,()),(x21,x22,x23,x24,(x25 ++ ([(y2.1.1,y2.1.2.1,y2.1.2.2.1,y2.1.2.2.2.1,y2.1.2.2.2.2.1,y2.1.2.2.2.2.2.1,y2.1.2.2.2.2.2.2.1,y2.1.2.2.2.2.2.2.2.1)]:List Y4)),x26,x27,x28,()),x29,(wrap .i64 (x30 - 1)),()))
  else none
 else
  some (.inr ((x0,x1,()),(x2,x3,x4,x5,x6,x7,x8,x9,()),(x10,x11,()),(x12,x13,()),((),x14,x15,x16,()),(x17,x18,()),(x19,x20,()),(x21,x22,x23,x24,x25,x26,x27,x28,()),x29,()))
def gaw_506F (x:(Y12×(List (Int×Bool)×List Y2×List (Int×Bool×Bool×List (Int×Int))×List Y14×List Y4×List Y6×List Y26×List Int×Unit)×Y9×Y9×(Unit×List Y2×List (Int×Bool×Bool×List (Int×Int))×List Y14×Unit)×Y9×Y9×(List (Int×Bool)×List Y2×List (Int×Bool×Bool×List (Int×Int))×List Y14×List Y4×List Y6×List Y26×List Int×Unit)×Int×Int×Unit)):=gaw_506r x.1.1 x.1.2.1 x.2.1.1 x.2.1.2.1 x.2.1.2.2.1 x.2.1.2.2.2.1 x.2.1.2.2.2.2.1 x.2.1.2.2.2.2.2.1 x.2.1.2.2.2.2.2.2.1 x.2.1.2.2.2.2.2.2.2.1 x.2.2.1.1 x.2.2.1.2.1 x.2.2.2.1.1 x.2.2.2.1.2.1 x.2.2.2.2.1.2.1 x.2.2.2.2.1.2.2.1 x.2.2.2.2.1.2.2.2.1 x.2.2.2.2.2.1.1 x.2.2.2.2.2.1.2.1 x.2.2.2.2.2.2.1.1 x.2.2.2.2.2.2.1.2.1 x.2.2.2.2.2.2.2.1.1 x.2.2.2.2.2.2.2.1.2.1 x.2.2.2.2.2.2.2.1.2.2.1 x.2.2.2.2.2.2.2.1.2.2.2.1 x.2.2.2.2.2.2.2.1.2.2.2.2.1 x.2.2.2.2.2.2.2.1.2.2.2.2.2.1 x.2.2.2.2.2.2.2.1.2.2.2.2.2.2.1 x.2.2.2.2.2.2.2.1.2.2.2.2.2.2.2.1 x.2.2.2.2.2.2.2.2.1 x.2.2.2.2.2.2.2.2.2.1
def gaw_506 (x0:List Int) (x1:Int) (x2:List (Int×Bool)) (x3:List Y2) (x4:List (Int×Bool×Bool×List (Int×Int))) (x5:List Y14) (x6:List Y4) (x7:List Y6) (x8:List Y26) (x9 x10 x11 x12 x13:List Int) (x14:List Y2) (x15:List (Int×Bool×Bool×List (Int×Int))) (x16:List Y14) (x17 x18 x19 x20:List Int) (x21:List (Int×Bool)) (x22:List Y2) (x23:List (Int×Bool×Bool×List (Int×Int))) (x24:List Y14) (x25:List Y4) (x26:List Y6) (x27:List Y26) (x28:List Int) (x29 x30:Int):=loopL gaw_506F ((x0,x1,()),(x2,x3,x4,x5,x6,x7,x8,x9,()),(x10,x11,()),(x12,x13,()),((),x14,x15,x16,()),(x17,x18,()),(x19,x20,()),(x21,x22,x23,x24,x25,x26,x27,x28,()),x29,x30,())
def gaw_1018r (x0:List Int) (x1:Int) (x2:List (Int×Bool)) (x3:List Y2) (x4:List (Int×Bool×Bool×List (Int×Int))) (x5:List Y14) (x6:List Y4) (x7:List Y6) (x8:List Y26) (x9 x10 x11 x12 x13:List Int) (x14:List Y2) (x15:List (Int×Bool×Bool×List (Int×Int))) (x16:List Y14) (x17 x18 x19 x20:List Int) (x21:List (Int×Bool)) (x22:List Y2) (x23:List (Int×Bool×Bool×List (Int×Int))) (x24:List Y14) (x25:List Y4) (x26:List Y6) (x27:List Y26) (x28:List Int) (x29 x30:Int):Option ((Y12×(List (Int×Bool)×List Y2×List (Int×Bool×Bool×List (Int×Int))×List Y14×List Y4×List Y6×List Y26×List Int×Unit)×Y9×Y9×(Unit×List Y2×List (Int×Bool×Bool×List (Int×Int))×List Y14×Unit)×Y9×Y9×(List (Int×Bool)×List Y2×List (Int×Bool×Bool×List (Int×Int))×List Y14×List Y4×List Y6×List Y26×List Int×Unit)×Int×Int×Unit) ⊕ (Y12×(List (Int×Bool)×List Y2×List (Int×Bool×Bool×List (Int×Int))×List Y14×List Y4×List Y6×List Y26×List Int×Unit)×Y9×Y9×(Unit×List Y2×List (Int×Bool×Bool×List (Int×Int))×List Y14×Unit)×Y9×Y9×(List (Int×Bool)×List Y2×List (Int×Bool×Bool×List (Int×Int))×List Y14×List Y4×List Y6×List Y26×List Int×Unit)×Int×Unit)) :=
 bif decide (x30 < (x15.length:Int)) then
  (gas x0 x1 5 (x25.length:Int) x30).bind fun y3 =>
  bif decide ((x25.length + 1) * 64≤140737488355328) then
  some (.inl (y3.2.1,(x2,x3,x4,x5,x6,x7,x8,x9,()),(x10,x11,()),(x12,x13,()),((),x14,x15,x16,()),(x17,x18,()),(x19,x20,()),(x21,x22,x23,x24,(x25 ++ ([(y3.1.1,y3.1.2.1,y3.1.2.2.1,y3.1.2.2.2.1,y3.1.2.2.2.2.1,y3.1.2.2.2.2.2.1,y3.1.2.2.2.2.2.2.1,y3.1.2.2.2.2.2.2.2.1)]:List Y4)),x26,x27,x28,()),x29,(wrap .i64 (x30 + 1)),()))
  else none
 else
  some (.inr ((x0,x1,()),(x2,x3,x4,x5,x6,x7,x8,x9,()),(x10,x11,()),(x12,x13,()),((),x14,x15,x16,()),(x17,x18,()),(x19,x20,()),(x21,x22,x23,x24,x25,x26,x27,x28,()),x29,()))
def gaw_1018F (x:(Y12×(List (Int×Bool)×List Y2×List (Int×Bool×Bool×List (Int×Int))×List Y14×List Y4×List Y6×List Y26×List Int×Unit)×Y9×Y9×(Unit×List Y2×List (Int×Bool×Bool×List (Int×Int))×List Y14×Unit)×Y9×Y9×(List (Int×Bool)×List Y2×List (Int×Bool×Bool×List (Int×Int))×List Y14×List Y4×List Y6×List Y26×List Int×Unit)×Int×Int×Unit)):=gaw_1018r x.1.1 x.1.2.1 x.2.1.1 x.2.1.2.1 x.2.1.2.2.1 x.2.1.2.2.2.1 x.2.1.2.2.2.2.1 x.2.1.2.2.2.2.2.1 x.2.1.2.2.2.2.2.2.1 x.2.1.2.2.2.2.2.2.2.1 x.2.2.1.1 x.2.2.1.2.1 x.2.2.2.1.1 x.2.2.2.1.2.1 x.2.2.2.2.1.2.1 x.2.2.2.2.1.2.2.1 x.2.2.2.2.1.2.2.2.1 x.2.2.2.2.2.1.1 x.2.2.2.2.2.1.2.1 x.2.2.2.2.2.2.1.1 x.2.2.2.2.2.2.1.2.1 x.2.2.2.2.2.2.2.1.1 x.2.2.2.2.2.2.2.1.2.1 x.2.2.2.2.2.2.2.1.2.2.1 x.2.2.2.2.2.2.2.1.2.2.2.1 x.2.2.2.2.2.2.2.1.2.2.2.2.1 x.2.2.2.2.2.2.2.1.2.2.2.2.2.1 x.2.2.2.2.2.2.2.1.2.2.2.2.2.2.1 x.2.2.2.2.2.2.2.1.2.2.2.2.2.2.2.1 x.2.2.2.2.2.2.2.2.1 x.2.2.2.2.2.2.2.2.2.1
def gaw_1018 (x0:List Int) (x1:Int) (x2:List (Int×Bool)) (x3:List Y2) (x4:List (Int×Bool×Bool×List (Int×Int))) (x5:List Y14) (x6:List Y4) (x7:List Y6) (x8:List Y26) (x9 x10 x11 x12 x13:List Int) (x14:List Y2) (x15:List (Int×Bool×Bool×List (Int×Int))) (x16:List Y14) (x17 x18 x19 x20:List Int) (x21:List (Int×Bool)) (x22:List Y2) (x23:List (Int×Bool×Bool×List (Int×Int))) (x24:List Y14) (x25:List Y4) (x26:List Y6) (x27:List Y26) (x28:List Int) (x29 x30:Int):=loopL gaw_1018F ((x0,x1,()),(x2,x3,x4,x5,x6,x7,x8,x9,()),(x10,x11,()),(x12,x13,()),((),x14,x15,x16,()),(x17,x18,()),(x19,x20,()),(x21,x22,x23,x24,x25,x26,x27,x28,()),x29,x30,())
def gaw_2042r (x0:List Int) (x1:Int) (x2:List (Int×Bool)) (x3:List Y2) (x4:List (Int×Bool×Bool×List (Int×Int))) (x5:List Y14) (x6:List Y4) (x7:List Y6) (x8:List Y26) (x9 x10 x11 x12 x13:List Int) (x14:List Y2) (x15:List (Int×Bool×Bool×List (Int×Int))) (x16:List Y14) (x17 x18 x19 x20:List Int) (x21:List (Int×Bool)) (x22:List Y2) (x23:List (Int×Bool×Bool×List (Int×Int))) (x24:List Y14) (x25:List Y4) (x26:List Y6) (x27:List Y26) (x28:List Int) (x29 x30:Int):Option ((Y12×(List (Int×Bool)×List Y2×List (Int×Bool×Bool×List (Int×Int))×List Y14×List Y4×List Y6×List Y26×List Int×Unit)×Y9×Y9×(Unit×List Y2×List (Int×Bool×Bool×List (Int×Int))×List Y14×Unit)×Y9×Y9×(List (Int×Bool)×List Y2×List (Int×Bool×Bool×List (Int×Int))×List Y14×List Y4×List Y6×List Y26×List Int×Unit)×Int×Int×Unit) ⊕ (Y12×(List (Int×Bool)×List Y2×List (Int×Bool×Bool×List (Int×Int))×List Y14×List Y4×List Y6×List Y26×List Int×Unit)×Y9×Y9×Y9×Y9×(List (Int×Bool)×List Y2×List (Int×Bool×Bool×List (Int×Int))×List Y14×List Y4×List Y6×List Y26×List Int×Unit)×Int×Unit)) :=
 bif decide (x30 < (x16.length:Int)) then
  (gas x0 x1 6 (x25.length:Int) x30).bind fun y4 =>
  bif decide ((x25.length + 1) * 64≤140737488355328) then
  some (.inl (y4.2.1,(x2,x3,x4,x5,x6,x7,x8,x9,()),(x10,x11,()),(x12,x13,()),((),x14,x15,x16,()),(x17,x18,()),(x19,x20,()),(x21,x22,x23,x24,(x25 ++ ([(y4.1.1,y4.1.2.1,y4.1.2.2.1,y4.1.2.2.2.1,y4.1.2.2.2.2.1,y4.1.2.2.2.2.2.1,y4.1.2.2.2.2.2.2.1,y4.1.2.2.2.2.2.2.2.1)]:List Y4)),x26,x27,x28,()),x29,(wrap .i64 (x30 + 1)),()))
  else none
 else
  some (.inr ((x0,x1,()),(x2,x3,x4,x5,x6,x7,x8,x9,()),(x10,x11,()),(x12,x13,()),(x17,x18,()),(x19,x20,()),(x21,x22,x23,x24,x25,x26,x27,x28,()),x29,()))
def gaw_2042F (x:(Y12×(List (Int×Bool)×List Y2×List (Int×Bool×Bool×List (Int×Int))×List Y14×List Y4×List Y6×List Y26×List Int×Unit)×Y9×Y9×(Unit×List Y2×List (Int×Bool×Bool×List (Int×Int))×List Y14×Unit)×Y9×Y9×(List (Int×Bool)×List Y2×List (Int×Bool×Bool×List (Int×Int))×List Y14×List Y4×List Y6×List Y26×List Int×Unit)×Int×Int×Unit)):=gaw_2042r x.1.1 x.1.2.1 x.2.1.1 x.2.1.2.1 x.2.1.2.2.1 x.2.1.2.2.2.1 x.2.1.2.2.2.2.1 x.2.1.2.2.2.2.2.1 x.2.1.2.2.2.2.2.2.1 x.2.1.2.2.2.2.2.2.2.1 x.2.2.1.1 x.2.2.1.2.1 x.2.2.2.1.1 x.2.2.2.1.2.1 x.2.2.2.2.1.2.1 x.2.2.2.2.1.2.2.1 x.2.2.2.2.1.2.2.2.1 x.2.2.2.2.2.1.1 x.2.2.2.2.2.1.2.1 x.2.2.2.2.2.2.1.1 x.2.2.2.2.2.2.1.2.1 x.2.2.2.2.2.2.2.1.1 x.2.2.2.2.2.2.2.1.2.1 x.2.2.2.2.2.2.2.1.2.2.1 x.2.2.2.2.2.2.2.1.2.2.2.1 x.2.2.2.2.2.2.2.1.2.2.2.2.1 x.2.2.2.2.2.2.2.1.2.2.2.2.2.1 x.2.2.2.2.2.2.2.1.2.2.2.2.2.2.1 x.2.2.2.2.2.2.2.1.2.2.2.2.2.2.2.1 x.2.2.2.2.2.2.2.2.1 x.2.2.2.2.2.2.2.2.2.1
def gaw_2042 (x0:List Int) (x1:Int) (x2:List (Int×Bool)) (x3:List Y2) (x4:List (Int×Bool×Bool×List (Int×Int))) (x5:List Y14) (x6:List Y4) (x7:List Y6) (x8:List Y26) (x9 x10 x11 x12 x13:List Int) (x14:List Y2) (x15:List (Int×Bool×Bool×List (Int×Int))) (x16:List Y14) (x17 x18 x19 x20:List Int) (x21:List (Int×Bool)) (x22:List Y2) (x23:List (Int×Bool×Bool×List (Int×Int))) (x24:List Y14) (x25:List Y4) (x26:List Y6) (x27:List Y26) (x28:List Int) (x29 x30:Int):=loopL gaw_2042F ((x0,x1,()),(x2,x3,x4,x5,x6,x7,x8,x9,()),(x10,x11,()),(x12,x13,()),((),x14,x15,x16,()),(x17,x18,()),(x19,x20,()),(x21,x22,x23,x24,x25,x26,x27,x28,()),x29,x30,())
def gaw_4090r (x0:List Int) (x1:Int) (x2:List (Int×Bool)) (x3:List Y2) (x4:List (Int×Bool×Bool×List (Int×Int))) (x5:List Y14) (x6:List Y4) (x7:List Y6) (x8:List Y26) (x9 x10 x11 x12 x13 x14 x15 x16 x17:List Int) (x18:List (Int×Bool)) (x19:List Y2) (x20:List (Int×Bool×Bool×List (Int×Int))) (x21:List Y14) (x22:List Y4) (x23:List Y6) (x24:List Y26) (x25:List Int) (x26 x27:Int):Option ((Y12×(List (Int×Bool)×List Y2×List (Int×Bool×Bool×List (Int×Int))×List Y14×List Y4×List Y6×List Y26×List Int×Unit)×Y9×Y9×Y9×Y9×(List (Int×Bool)×List Y2×List (Int×Bool×Bool×List (Int×Int))×List Y14×List Y4×List Y6×List Y26×List Int×Unit)×Int×Int×Unit) ⊕ (Y12×(List (Int×Bool)×List Y2×List (Int×Bool×Bool×List (Int×Int))×List Y14×List Y4×List Y6×List Y26×List Int×Unit)×Y9×Y9×Y9×Y9×(List (Int×Bool)×List Y2×List (Int×Bool×Bool×List (Int×Int))×List Y14×List Y4×List Y6×List Y26×List Int×Unit)×Int×Unit)) :=
 bif decide (x27 > 0) then
  (gau x0 x1 x18 x19 x20 x21 x22 x23 x24 x25).bind fun y5 =>
  bif decide ((x23.length + 1) * 48≤140737488355328) then
  some (.inl (y5.2.1,(x2,x3,x4,x5,x6,x7,x8,x9,()),(x10,x11,()),(x12,x13,()),(x14,x15,()),(x16,x17,()),(x18,x19,x20,x21,x22,(x23 ++ ([(y5.1.1,y5.1.2.1,y5.1.2.2.1,y5.1.2.2.2.1,y5.1.2.2.2.2.1,y5.1.2.2.2.2.2.1)]:List Y6)),x24,x25,()),x26,(wrap .i64 (x27 - 1)),()))
  else none
 else
  some (.inr ((x0,x1,()),(x2,x3,x4,x5,x6,x7,x8,x9,()),(x10,x11,()),(x12,x13,()),(x14,x15,()),(x16,x17,()),(x18,x19,x20,x21,x22,x23,x24,x25,()),x26,()))
def gaw_4090F (x:(Y12×(List (Int×Bool)×List Y2×List (Int×Bool×Bool×List (Int×Int))×List Y14×List Y4×List Y6×List Y26×List Int×Unit)×Y9×Y9×Y9×Y9×(List (Int×Bool)×List Y2×List (Int×Bool×Bool×List (Int×Int))×List Y14×List Y4×List Y6×List Y26×List Int×Unit)×Int×Int×Unit)):=gaw_4090r x.1.1 x.1.2.1 x.2.1.1 x.2.1.2.1 x.2.1.2.2.1 x.2.1.2.2.2.1 x.2.1.2.2.2.2.1 x.2.1.2.2.2.2.2.1 x.2.1.2.2.2.2.2.2.1 x.2.1.2.2.2.2.2.2.2.1 x.2.2.1.1 x.2.2.1.2.1 x.2.2.2.1.1 x.2.2.2.1.2.1 x.2.2.2.2.1.1 x.2.2.2.2.1.2.1 x.2.2.2.2.2.1.1 x.2.2.2.2.2.1.2.1 x.2.2.2.2.2.2.1.1 x.2.2.2.2.2.2.1.2.1 x.2.2.2.2.2.2.1.2.2.1 x.2.2.2.2.2.2.1.2.2.2.1 x.2.2.2.2.2.2.1.2.2.2.2.1 x.2.2.2.2.2.2.1.2.2.2.2.2.1 x.2.2.2.2.2.2.1.2.2.2.2.2.2.1 x.2.2.2.2.2.2.1.2.2.2.2.2.2.2.1 x.2.2.2.2.2.2.2.1 x.2.2.2.2.2.2.2.2.1
def gaw_4090 (x0:List Int) (x1:Int) (x2:List (Int×Bool)) (x3:List Y2) (x4:List (Int×Bool×Bool×List (Int×Int))) (x5:List Y14) (x6:List Y4) (x7:List Y6) (x8:List Y26) (x9 x10 x11 x12 x13 x14 x15 x16 x17:List Int) (x18:List (Int×Bool)) (x19:List Y2) (x20:List (Int×Bool×Bool×List (Int×Int))) (x21:List Y14) (x22:List Y4) (x23:List Y6) (x24:List Y26) (x25:List Int) (x26 x27:Int):=loopL gaw_4090F ((x0,x1,()),(x2,x3,x4,x5,x6,x7,x8,x9,()),(x10,x11,()),(x12,x13,()),(x14,x15,()),(x16,x17,()),(x18,x19,x20,x21,x22,x23,x24,x25,()),x26,x27,())
def gaw_2095690r (x0:List Int) (x1:Int) (x2:List (Int×Bool)) (x3:List Y2) (x4:List (Int×Bool×Bool×List (Int×Int))) (x5:List Y14) (x6:List Y4) (x7:List Y6) (x8:List Y26) (x9 x10 x11 x12 x13 x14 x15 x16 x17:List Int) (x18:List (Int×Bool)) (x19:List Y2) (x20:List (Int×Bool×Bool×List (Int×Int))) (x21:List Y14) (x22:List Y4) (x23:List Y6) (x24:List Y26) (x25:List Int) (x26 x27:Int) (x28:List Y13) (x29:Int) (x30:List Int) (x31 x32:Int):Option ((Y12×(List (Int×Bool)×List Y2×List (Int×Bool×Bool×List (Int×Int))×List Y14×List Y4×List Y6×List Y26×List Int×Unit)×Y9×Y9×Y9×Y9×(List (Int×Bool)×List Y2×List (Int×Bool×Bool×List (Int×Int))×List Y14×List Y4×List Y6×List Y26×List Int×Unit)×Int×Int×Y21×Int×Unit) ⊕ (Y12×(List (Int×Bool)×List Y2×List (Int×Bool×Bool×List (Int×Int))×List Y14×List Y4×List Y6×List Y26×List Int×Unit)×Y9×Y9×Y9×Y9×(List (Int×Bool)×List Y2×List (Int×Bool×Bool×List (Int×Int))×List Y14×List Y4×List Y6×List Y26×List Int×Unit)×Int×Int×Y21×Unit)) :=
 bif decide (x32 < x26) then
  (gac x0 x1 4).bind fun y6 =>
  bif y6.1 then
   bif decide ((x30.length + 1) * 8≤140737488355328) then
   some (.inl (y6.2.1,(x2,x3,x4,x5,x6,x7,x8,x9,()),(x10,x11,()),(x12,x13,()),(x14,x15,()),(x16,x17,()),(x18,x19,x20,x21,x22,x23,x24,x25,()),x26,x27,(x28,x29,(x30 ++ ([x32]:List Int)),x31,()),(wrap .i64 (x32 + 1)),()))
   else none
  else
   some (.inl (y6.2.1,(x2,x3,x4,x5,x6,x7,x8,x9,()),(x10,x11,()),(x12,x13,()),(x14,x15,()),(x16,x17,()),(x18,x19,x20,x21,x22,x23,x24,x25,()),x26,x27,(x28,x29,x30,x31,()),(wrap .i64 (x32 + 1)),()))
 else
  some (.inr ((x0,x1,()),(x2,x3,x4,x5,x6,x7,x8,x9,()),(x10,x11,()),(x12,x13,()),(x14,x15,()),(x16,x17,()),(x18,x19,x20,x21,x22,x23,x24,x25,()),x26,x27,(x28,x29,x30,x31,()),()))
def gaw_2095690F (x:(Y12×(List (Int×Bool)×List Y2×List (Int×Bool×Bool×List (Int×Int))×List Y14×List Y4×List Y6×List Y26×List Int×Unit)×Y9×Y9×Y9×Y9×(List (Int×Bool)×List Y2×List (Int×Bool×Bool×List (Int×Int))×List Y14×List Y4×List Y6×List Y26×List Int×Unit)×Int×Int×Y21×Int×Unit)):=gaw_2095690r x.1.1 x.1.2.1 x.2.1.1 x.2.1.2.1 x.2.1.2.2.1 x.2.1.2.2.2.1 x.2.1.2.2.2.2.1 x.2.1.2.2.2.2.2.1 x.2.1.2.2.2.2.2.2.1 x.2.1.2.2.2.2.2.2.2.1 x.2.2.1.1 x.2.2.1.2.1 x.2.2.2.1.1 x.2.2.2.1.2.1 x.2.2.2.2.1.1 x.2.2.2.2.1.2.1 x.2.2.2.2.2.1.1 x.2.2.2.2.2.1.2.1 x.2.2.2.2.2.2.1.1 x.2.2.2.2.2.2.1.2.1 x.2.2.2.2.2.2.1.2.2.1 x.2.2.2.2.2.2.1.2.2.2.1 x.2.2.2.2.2.2.1.2.2.2.2.1 x.2.2.2.2.2.2.1.2.2.2.2.2.1 x.2.2.2.2.2.2.1.2.2.2.2.2.2.1 x.2.2.2.2.2.2.1.2.2.2.2.2.2.2.1 x.2.2.2.2.2.2.2.1 x.2.2.2.2.2.2.2.2.1 x.2.2.2.2.2.2.2.2.2.1.1 x.2.2.2.2.2.2.2.2.2.1.2.1 x.2.2.2.2.2.2.2.2.2.1.2.2.1 x.2.2.2.2.2.2.2.2.2.1.2.2.2.1 x.2.2.2.2.2.2.2.2.2.2.1
def gaw_2095690 (x0:List Int) (x1:Int) (x2:List (Int×Bool)) (x3:List Y2) (x4:List (Int×Bool×Bool×List (Int×Int))) (x5:List Y14) (x6:List Y4) (x7:List Y6) (x8:List Y26) (x9 x10 x11 x12 x13 x14 x15 x16 x17:List Int) (x18:List (Int×Bool)) (x19:List Y2) (x20:List (Int×Bool×Bool×List (Int×Int))) (x21:List Y14) (x22:List Y4) (x23:List Y6) (x24:List Y26) (x25:List Int) (x26 x27:Int) (x28:List Y13) (x29:Int) (x30:List Int) (x31 x32:Int):=loopL gaw_2095690F ((x0,x1,()),(x2,x3,x4,x5,x6,x7,x8,x9,()),(x10,x11,()),(x12,x13,()),(x14,x15,()),(x16,x17,()),(x18,x19,x20,x21,x22,x23,x24,x25,()),x26,x27,(x28,x29,x30,x31,()),x32,())
def gaw_8186r (x0:List Int) (x1:Int) (x2:List (Int×Bool)) (x3:List Y2) (x4:List (Int×Bool×Bool×List (Int×Int))) (x5:List Y14) (x6:List Y4) (x7:List Y6) (x8:List Y26) (x9 x10 x11 x12 x13 x14 x15 x16 x17:List Int) (x18:List (Int×Bool)) (x19:List Y2) (x20:List (Int×Bool×Bool×List (Int×Int))) (x21:List Y14) (x22:List Y4) (x23:List Y6) (x24:List Y26) (x25:List Int) (x26 x27:Int):Option ((Y12×(List (Int×Bool)×List Y2×List (Int×Bool×Bool×List (Int×Int))×List Y14×List Y4×List Y6×List Y26×List Int×Unit)×Y9×Y9×Y9×Y9×(List (Int×Bool)×List Y2×List (Int×Bool×Bool×List (Int×Int))×List Y14×List Y4×List Y6×List Y26×List Int×Unit)×Int×Int×Unit) ⊕ (Y12×(List (Int×Bool)×List Y2×List (Int×Bool×Bool×List (Int×Int))×List Y14×List Y4×List Y6×List Y26×List Int×Unit)×Y9×Y9×Y9×Y9×(List (Int×Bool)×List Y2×List (Int×Bool×Bool×List (Int×Int))×List Y14×List Y4×List Y6×List Y26×List Int×Unit)×Unit)) :=
 bif decide (x27 > 0) then
  (gav x0 x1 (x23.length:Int) 2).bind fun y7 =>
  (gab y7.2.1.1 y7.2.1.2.1 9).bind fun y8 =>
  (gab y8.2.1.1 y8.2.1.2.1 2).bind fun y9 =>
  (gaw_2095690 y9.2.1.1 y9.2.1.2.1 x2 x3 x4 x5 x6 x7 x8 x9 x10 x11 x12 x13 x14 x15 x16 x17 x18 x19 x20 x21 x22 x23 x24 x25 x26 x27 y7.1 y8.1 ([]:List Int) y9.1 0).bind fun z0 =>
  bif decide ((z0.2.2.2.2.2.2.1.2.2.2.2.2.2.1.length + 1) * 64≤140737488355328) then
  some (.inl (z0.1,z0.2.1,z0.2.2.1,z0.2.2.2.1,z0.2.2.2.2.1,z0.2.2.2.2.2.1,(z0.2.2.2.2.2.2.1.1,z0.2.2.2.2.2.2.1.2.1,z0.2.2.2.2.2.2.1.2.2.1,z0.2.2.2.2.2.2.1.2.2.2.1,z0.2.2.2.2.2.2.1.2.2.2.2.1,z0.2.2.2.2.2.2.1.2.2.2.2.2.1,(z0.2.2.2.2.2.2.1.2.2.2.2.2.2.1 ++ ([(z0.2.2.2.2.2.2.2.2.2.1.1,z0.2.2.2.2.2.2.2.2.2.1.2.1,z0.2.2.2.2.2.2.2.2.2.1.2.2.1,z0.2.2.2.2.2.2.2.2.2.1.2.2.2.1)]:List Y26)),z0.2.2.2.2.2.2.1.2.2.2.2.2.2.2.1,()),z0.2.2.2.2.2.2.2.1,(wrap .i64 (z0.2.2.2.2.2.2.2.2.1 - 1)),()))
  else none
 else
  some (.inr ((x0,x1,()),(x2,x3,x4,x5,x6,x7,x8,x9,()),(x10,x11,()),(x12,x13,()),(x14,x15,()),(x16,x17,()),(x18,x19,x20,x21,x22,x23,x24,x25,()),()))
def gaw_8186F (x:(Y12×(List (Int×Bool)×List Y2×List (Int×Bool×Bool×List (Int×Int))×List Y14×List Y4×List Y6×List Y26×List Int×Unit)×Y9×Y9×Y9×Y9×(List (Int×Bool)×List Y2×List (Int×Bool×Bool×List (Int×Int))×List Y14×List Y4×List Y6×List Y26×List Int×Unit)×Int×Int×Unit)):=gaw_8186r x.1.1 x.1.2.1 x.2.1.1 x.2.1.2.1 x.2.1.2.2.1 x.2.1.2.2.2.1 x.2.1.2.2.2.2.1 x.2.1.2.2.2.2.2.1 x.2.1.2.2.2.2.2.2.1 x.2.1.2.2.2.2.2.2.2.1 x.2.2.1.1 x.2.2.1.2.1 x.2.2.2.1.1 x.2.2.2.1.2.1 x.2.2.2.2.1.1 x.2.2.2.2.1.2.1 x.2.2.2.2.2.1.1 x.2.2.2.2.2.1.2.1 x.2.2.2.2.2.2.1.1 x.2.2.2.2.2.2.1.2.1 x.2.2.2.2.2.2.1.2.2.1 x.2.2.2.2.2.2.1.2.2.2.1 x.2.2.2.2.2.2.1.2.2.2.2.1 x.2.2.2.2.2.2.1.2.2.2.2.2.1 x.2.2.2.2.2.2.1.2.2.2.2.2.2.1 x.2.2.2.2.2.2.1.2.2.2.2.2.2.2.1 x.2.2.2.2.2.2.2.1 x.2.2.2.2.2.2.2.2.1
def gaw_8186 (x0:List Int) (x1:Int) (x2:List (Int×Bool)) (x3:List Y2) (x4:List (Int×Bool×Bool×List (Int×Int))) (x5:List Y14) (x6:List Y4) (x7:List Y6) (x8:List Y26) (x9 x10 x11 x12 x13 x14 x15 x16 x17:List Int) (x18:List (Int×Bool)) (x19:List Y2) (x20:List (Int×Bool×Bool×List (Int×Int))) (x21:List Y14) (x22:List Y4) (x23:List Y6) (x24:List Y26) (x25:List Int) (x26 x27:Int):=loopL gaw_8186F ((x0,x1,()),(x2,x3,x4,x5,x6,x7,x8,x9,()),(x10,x11,()),(x12,x13,()),(x14,x15,()),(x16,x17,()),(x18,x19,x20,x21,x22,x23,x24,x25,()),x26,x27,())
def gaw_31 (x0:List Int) (x1:Int) (x2:List (Int×Bool)) (x3:List Y2) (x4:List (Int×Bool×Bool×List (Int×Int))) (x5:List Y14) (x6:List Y4) (x7:List Y6) (x8:List Y26) (x9 x10 x11 x12 x13:List Int) (x14:List Y2) (x15:List (Int×Bool×Bool×List (Int×Int))) (x16:List Y14) (x17 x18 x19 x20:List Int) (x21:List (Int×Bool)) (x22:List Y2) (x23:List (Int×Bool×Bool×List (Int×Int))) (x24:List Y14) (x25:List Y4) (x26:List Y6) (x27:List Y26) (x28:List Int):Option (Y12×(List (Int×Bool)×List Y2×List (Int×Bool×Bool×List (Int×Int))×List Y14×List Y4×List Y6×List Y26×List Int×Unit)×Y9×Y9×Unit) :=
 (gad x0 x1 1 4).bind fun y10 =>
 (gaw_506 y10.2.1.1 y10.2.1.2.1 x2 x3 x4 x5 x6 x7 x8 x9 x10 x11 x12 x13 x14 x15 x16 x17 x18 x19 x20 x21 x22 x23 x24 x25 x26 x27 x28 (x22.length:Int) y10.1).bind fun z1 =>
 (gaw_1018 z1.1.1 z1.1.2.1 z1.2.1.1 z1.2.1.2.1 z1.2.1.2.2.1 z1.2.1.2.2.2.1 z1.2.1.2.2.2.2.1 z1.2.1.2.2.2.2.2.1 z1.2.1.2.2.2.2.2.2.1 z1.2.1.2.2.2.2.2.2.2.1 z1.2.2.1.1 z1.2.2.1.2.1 z1.2.2.2.1.1 z1.2.2.2.1.2.1 z1.2.2.2.2.1.2.1 z1.2.2.2.2.1.2.2.1 z1.2.2.2.2.1.2.2.2.1 z1.2.2.2.2.2.1.1 z1.2.2.2.2.2.1.2.1 z1.2.2.2.2.2.2.1.1 z1.2.2.2.2.2.2.1.2.1 z1.2.2.2.2.2.2.2.1.1 z1.2.2.2.2.2.2.2.1.2.1 z1.2.2.2.2.2.2.2.1.2.2.1 z1.2.2.2.2.2.2.2.1.2.2.2.1 z1.2.2.2.2.2.2.2.1.2.2.2.2.1 z1.2.2.2.2.2.2.2.1.2.2.2.2.2.1 z1.2.2.2.2.2.2.2.1.2.2.2.2.2.2.1 z1.2.2.2.2.2.2.2.1.2.2.2.2.2.2.2.1 z1.2.2.2.2.2.2.2.2.1 0).bind fun z2 =>
 (gaw_2042 z2.1.1 z2.1.2.1 z2.2.1.1 z2.2.1.2.1 z2.2.1.2.2.1 z2.2.1.2.2.2.1 z2.2.1.2.2.2.2.1 z2.2.1.2.2.2.2.2.1 z2.2.1.2.2.2.2.2.2.1 z2.2.1.2.2.2.2.2.2.2.1 z2.2.2.1.1 z2.2.2.1.2.1 z2.2.2.2.1.1 z2.2.2.2.1.2.1 z2.2.2.2.2.1.2.1 z2.2.2.2.2.1.2.2.1 z2.2.2.2.2.1.2.2.2.1 z2.2.2.2.2.2.1.1 z2.2.2.2.2.2.1.2.1 z2.2.2.2.2.2.2.1.1 z2.2.2.2.2.2.2.1.2.1 z2.2.2.2.2.2.2.2.1.1 z2.2.2.2.2.2.2.2.1.2.1 z2.2.2.2.2.2.2.2.1.2.2.1 z2.2.2.2.2.2.2.2.1.2.2.2.1 z2.2.2.2.2.2.2.2.1.2.2.2.2.1 z2.2.2.2.2.2.2.2.1.2.2.2.2.2.1 z2.2.2.2.2.2.2.2.1.2.2.2.2.2.2.1 z2.2.2.2.2.2.2.2.1.2.2.2.2.2.2.2.1 z2.2.2.2.2.2.2.2.2.1 0).bind fun z3 =>
 (gad z3.1.1 z3.1.2.1 1 4).bind fun y11 =>
 (gaw_4090 y11.2.1.1 y11.2.1.2.1 z3.2.1.1 z3.2.1.2.1 z3.2.1.2.2.1 z3.2.1.2.2.2.1 z3.2.1.2.2.2.2.1 z3.2.1.2.2.2.2.2.1 z3.2.1.2.2.2.2.2.2.1 z3.2.1.2.2.2.2.2.2.2.1 z3.2.2.1.1 z3.2.2.1.2.1 z3.2.2.2.1.1 z3.2.2.2.1.2.1 z3.2.2.2.2.1.1 z3.2.2.2.2.1.2.1 z3.2.2.2.2.2.1.1 z3.2.2.2.2.2.1.2.1 z3.2.2.2.2.2.2.1.1 z3.2.2.2.2.2.2.1.2.1 z3.2.2.2.2.2.2.1.2.2.1 z3.2.2.2.2.2.2.1.2.2.2.1 z3.2.2.2.2.2.2.1.2.2.2.2.1 z3.2.2.2.2.2.2.1.2.2.2.2.2.1 z3.2.2.2.2.2.2.1.2.2.2.2.2.2.1 z3.2.2.2.2.2.2.1.2.2.2.2.2.2.2.1 z3.2.2.2.2.2.2.2.1 y11.1).bind fun z4 =>
 (gad z4.1.1 z4.1.2.1 1 3).bind fun y12 =>
 (gaw_8186 y12.2.1.1 y12.2.1.2.1 z4.2.1.1 z4.2.1.2.1 z4.2.1.2.2.1 z4.2.1.2.2.2.1 z4.2.1.2.2.2.2.1 z4.2.1.2.2.2.2.2.1 z4.2.1.2.2.2.2.2.2.1 z4.2.1.2.2.2.2.2.2.2.1 z4.2.2.1.1 z4.2.2.1.2.1 z4.2.2.2.1.1 z4.2.2.2.1.2.1 z4.2.2.2.2.1.1 z4.2.2.2.2.1.2.1 z4.2.2.2.2.2.1.1 z4.2.2.2.2.2.1.2.1 z4.2.2.2.2.2.2.1.1 z4.2.2.2.2.2.2.1.2.1 z4.2.2.2.2.2.2.1.2.2.1 z4.2.2.2.2.2.2.1.2.2.2.1 z4.2.2.2.2.2.2.1.2.2.2.2.1 z4.2.2.2.2.2.2.1.2.2.2.2.2.1 z4.2.2.2.2.2.2.1.2.2.2.2.2.2.1 z4.2.2.2.2.2.2.1.2.2.2.2.2.2.2.1 z4.2.2.2.2.2.2.2.1 y12.1).bind fun z5 =>
 some (z5.1,(z5.2.2.2.2.2.2.1.1,z5.2.2.2.2.2.2.1.2.1,z5.2.2.2.2.2.2.1.2.2.1,z5.2.2.2.2.2.2.1.2.2.2.1,z5.2.2.2.2.2.2.1.2.2.2.2.1,z5.2.2.2.2.2.2.1.2.2.2.2.2.1,z5.2.2.2.2.2.2.1.2.2.2.2.2.2.1,([1,2,1,3]:List Int),()),z5.2.2.2.2.1,z5.2.2.2.2.2.1,())
def gaw (x0:List Int) (x1:Int):Option (((List (Int×Bool)×List Y2×List (Int×Bool×Bool×List (Int×Int))×List Y14×List Y4×List Y6×List Y26×List Int×Unit)×Y9×Y9×Unit)×(Y12×Unit)) :=
 (gaq x0 x1).bind fun y13 =>
 bif ((y13.1.1.2.1.length:Int) == 0) then
  bif decide ((y13.1.1.1.length + 1) * 16≤140737488355328) then
  bif decide ((y13.1.2.2.1.1.length + 1) * 8≤140737488355328) then
  (gaw_31 y13.2.1.1 y13.2.1.2.1 ([]:List (Int×Bool)) ([]:List Y2) ([]:List (Int×Bool×Bool×List (Int×Int))) ([]:List Y14) ([]:List Y4) ([]:List Y6) ([]:List Y26) ([]:List Int) ([]:List Int) ([]:List Int) ([]:List Int) ([]:List Int) y13.1.1.2.1 y13.1.1.2.2.1 y13.1.1.2.2.2.1 y13.1.2.1.1 y13.1.2.1.2.1 (y13.1.2.2.1.1 ++ ([0]:List Int)) ([0]:List Int) (y13.1.1.1 ++ ([(0,true)]:List (Int×Bool))) ([(0,(wrap .i64 (((y13.1.1.1 ++ ([(0,true)]:List (Int×Bool))).length:Int) - 1)),10,4,false,false,1,1,0,0)]:List Y2) y13.1.1.2.2.1 y13.1.1.2.2.2.1 ([]:List Y4) ([]:List Y6) ([]:List Y26) ([]:List Int)).bind fun z6 =>
  some (z6.2,(z6.1,()))
  else none
  else none
 else
  (gaw_31 y13.2.1.1 y13.2.1.2.1 ([]:List (Int×Bool)) ([]:List Y2) ([]:List (Int×Bool×Bool×List (Int×Int))) ([]:List Y14) ([]:List Y4) ([]:List Y6) ([]:List Y26) ([]:List Int) ([]:List Int) ([]:List Int) ([]:List Int) ([]:List Int) y13.1.1.2.1 y13.1.1.2.2.1 y13.1.1.2.2.2.1 y13.1.2.1.1 y13.1.2.1.2.1 y13.1.2.2.1.1 y13.1.2.2.1.2.1 y13.1.1.1 y13.1.1.2.1 y13.1.1.2.2.1 y13.1.1.2.2.2.1 ([]:List Y4) ([]:List Y6) ([]:List Y26) ([]:List Int)).bind fun z7 =>
  some (z7.2,(z7.1,()))
def gax (x0 x1 x2 x3:Int):Option (Bool×Unit) :=
 (bif decide (x2≤x0) then some (decide (x0≤x1)) else some false).bind fun b0 =>
 (bif b0 then some (decide (x1≤x3)) else some false).bind fun b1 =>
 some (b1,())
def gay_58r (x0:List (Int×Bool)) (x1:List Y2) (x2:Int):Option (((List (Int×Bool)×List Y2×Unit)×Int×Unit) ⊕ ((Int×Unit) ⊕ ((List (Int×Bool)×List Y2×Unit)×Unit))) :=
 bif decide (x2 < (x0.length:Int)) then
  (idx x0 x2).bind fun v0 =>
  (bif decide (v0.1 < (-10000)) then some true else some (decide (v0.1 > 10000))).bind fun b0 =>
  bif b0 then
   some (.inr (.inl (1,())))
  else
   some (.inl ((x0,x1,()),(wrap .i64 (x2 + 1)),()))
 else
  some (.inr (.inr ((x0,x1,()),())))
def gay_58F (x:((List (Int×Bool)×List Y2×Unit)×Int×Unit)):=gay_58r x.1.1 x.1.2.1 x.2.1
def gay_58 (x0:List (Int×Bool)) (x1:List Y2) (x2:Int):=loopL gay_58F ((x0,x1,()),x2,())
def gay_122r (x0:List (Int×Bool)) (x1:List Y2) (x2:Int):Option (((List (Int×Bool)×List Y2×Unit)×Int×Unit) ⊕ ((Int×Unit) ⊕ (Unit))) :=
 bif decide (x2 < (x1.length:Int)) then
  (idx x1 x2).bind fun v1 =>
  (bif decide (v1.1 < 0) then some true else some (decide (v1.1 ≥ (x0.length:Int)))).bind fun b1 =>
  (bif b1 then some true else some (decide (v1.2.1 < 0))).bind fun b2 =>
  (bif b2 then some true else some (decide (v1.2.1 ≥ (x0.length:Int)))).bind fun b3 =>
  (bif b3 then some true else some (v1.1 == v1.2.1)).bind fun b4 =>
  bif b4 then
   some (.inr (.inl (4,())))
  else
   (bif decide (v1.2.2.1 < 1) then some true else some (decide (v1.2.2.1 > 100000))).bind fun b5 =>
   (bif b5 then some true else some (decide (v1.2.2.2.1 < 1))).bind fun b6 =>
   (bif b6 then some true else some (decide (v1.2.2.2.1 > 1000))).bind fun b7 =>
   (bif b7 then some true else ((gax v1.2.2.2.2.2.2.1 v1.2.2.2.2.2.2.2.1 1 262144).bind fun y0 => some (!y0.1))).bind fun b8 =>
   (bif b8 then some true else ((gax v1.2.2.2.2.2.2.2.2.1 v1.2.2.2.2.2.2.2.2.2 (-2199023255552) 2199023255552).bind fun y1 => some (!y1.1))).bind fun b9 =>
   bif b9 then
    some (.inr (.inl (1,())))
   else
    some (.inl ((x0,x1,()),(wrap .i64 (x2 + 1)),()))
 else
  some (.inr (.inr ()))
def gay_122F (x:((List (Int×Bool)×List Y2×Unit)×Int×Unit)):=gay_122r x.1.1 x.1.2.1 x.2.1
def gay_122 (x0:List (Int×Bool)) (x1:List Y2) (x2:Int):=loopL gay_122F ((x0,x1,()),x2,())
def gay (x0:List (Int×Bool)) (x1:List Y2):Option (Int×Unit) :=
 (bif decide ((x0.length:Int) > 64) then some true else some (decide ((x1.length:Int) > 128))).bind fun b10 =>
 bif b10 then
  some (2,())
 else
  (gay_58 x0 x1 0).bind fun z0 =>
  sumElim z0 (fun z1 =>
   some (z1.1,()))
   (fun z2 =>
   (gay_122 z2.1.1 z2.1.2.1 0).bind fun z3 =>
   sumElim z3 (fun z4 =>
    some (z4.1,()))
    (fun z5 =>
    some (0,())))
def gaz_122r (x0:Int) (x1 x2:Bool) (x3:List (Int×Int)) (x4:Int):Option (((Int×Bool×Bool×List (Int×Int)×Unit)×Int×Unit) ⊕ ((Int×Unit) ⊕ (Unit))) :=
 bif decide (x4 < (x3.length:Int)) then
  (idx x3 x4).bind fun v0 =>
  (bif decide (v0.1 < (-1048576)) then some true else some (decide (v0.1 > 1048576))).bind fun b0 =>
  (bif b0 then some true else some (decide (v0.2 < 0))).bind fun b1 =>
  (bif b1 then some true else some (decide (v0.2 > 2199023255552))).bind fun b2 =>
  bif b2 then
   some (.inr (.inl (1,())))
  else
   (bif decide (x4 > 0) then ((idx x3 (wrap .i64 (x4 - 1))).bind fun v1 => ((bif decide (v0.1≤v1.1) then some true else ((idx x3 (wrap .i64 (x4 - 1))).bind fun v2 => some (decide (v0.2 > v2.2)))).bind fun b3 => some b3)) else some false).bind fun b4 =>
   bif b4 then
    some (.inr (.inl (14,())))
   else
    some (.inl ((x0,x1,x2,x3,()),(wrap .i64 (x4 + 1)),()))
 else
  some (.inr (.inr ()))
def gaz_122F (x:((Int×Bool×Bool×List (Int×Int)×Unit)×Int×Unit)):=gaz_122r x.1.1 x.1.2.1 x.1.2.2.1 x.1.2.2.2.1 x.2.1
def gaz_122 (x0:Int) (x1 x2:Bool) (x3:List (Int×Int)) (x4:Int):=loopL gaz_122F ((x0,x1,x2,x3,()),x4,())
def gaz (x0:Int) (x1 x2:Bool) (x3:List (Int×Int)):Option (Int×Unit) :=
 bif decide (x0 < 0) then
  some (4,())
 else
  (bif decide ((x3.length:Int) < 1) then some true else some (decide ((x3.length:Int) > 8))).bind fun b5 =>
  bif b5 then
   some (2,())
  else
   (gaz_122 x0 x1 x2 x3 0).bind fun z0 =>
   sumElim z0 (fun z1 =>
    some (z1.1,()))
    (fun z2 =>
    some (0,()))
def gba_59706r (x0:List Y14) (x1 x2 x3:Int) (x4:List Int) (x5:Int):Option (Y24 ⊕ ((Int×Unit) ⊕ (List Y14×Int×Y8×Unit))) :=
 bif decide (x5 < (x4.length:Int)) then
  (idx x4 x5).bind fun v0 =>
  (bif decide (v0 < 0) then some true else ((idx x4 x5).bind fun v1 => some (decide (v1 > 262144)))).bind fun b0 =>
  bif b0 then
   some (.inr (.inl (1,())))
  else
   some (.inl (x0,x1,(x2,x3,x4,()),(wrap .i64 (x5 + 1)),()))
 else
  some (.inr (.inr (x0,x1,(x2,x3,x4,()),())))
def gba_59706F (x:Y24):=gba_59706r x.1 x.2.1 x.2.2.1.1 x.2.2.1.2.1 x.2.2.1.2.2.1 x.2.2.2.1
def gba_59706 (x0:List Y14) (x1 x2 x3:Int) (x4:List Int) (x5:Int):=loopL gba_59706F (x0,x1,(x2,x3,x4,()),x5,())
def gba_119418r (x0:List Y14) (x1 x2 x3:Int) (x4:List Int) (x5:Int):Option (Y24 ⊕ ((Int×Unit) ⊕ (List Y14×Int×Y8×Unit))) :=
 bif decide (x5 < (x4.length:Int)) then
  (idx x4 x5).bind fun v2 =>
  (idx x4 (wrap .i64 (x5 - 1))).bind fun v3 =>
  bif decide (v2 ≥ v3) then
   some (.inr (.inl (15,())))
  else
   some (.inl (x0,x1,(x2,x3,x4,()),(wrap .i64 (x5 + 1)),()))
 else
  some (.inr (.inr (x0,x1,(x2,x3,x4,()),())))
def gba_119418F (x:Y24):=gba_119418r x.1 x.2.1 x.2.2.1.1 x.2.2.1.2.1 x.2.2.1.2.2.1 x.2.2.2.1
def gba_119418 (x0:List Y14) (x1 x2 x3:Int) (x4:List Int) (x5:Int):=loopL gba_119418F (x0,x1,(x2,x3,x4,()),x5,())
def gba_58r (x0:List Y14) (x1:Int):Option ((List Y14×Int×Unit) ⊕ ((Int×Unit) ⊕ (Unit))) :=
 bif decide (x1 < (x0.length:Int)) then
  (idx x0 x1).bind fun v4 =>
  bif decide (v4.1 < 0) then
   some (.inr (.inl (4,())))
  else
   (bif decide ((v4.2.2.length:Int) < 2) then some true else some (decide ((v4.2.2.length:Int) > 6))).bind fun b1 =>
   bif b1 then
    some (.inr (.inl (2,())))
   else
    (gba_59706 x0 x1 v4.1 v4.2.1 v4.2.2 0).bind fun z0 =>
    sumElim z0 (fun z1 =>
     some (.inr (.inl z1)))
     (fun z2 =>
     (gba_119418 z2.1 z2.2.1 z2.2.2.1.1 z2.2.2.1.2.1 z2.2.2.1.2.2.1 1).bind fun z3 =>
     sumElim z3 (fun z4 =>
      some (.inr (.inl z4)))
      (fun z5 =>
      (bif (z5.2.2.1.2.1 != (-1)) then ((bif decide (z5.2.2.1.2.1 < 0) then some true else some (decide (z5.2.2.1.2.1 ≥ (z5.1.length:Int)))).bind fun b2 => ((bif b2 then some true else some (z5.2.2.1.2.1 == z5.2.1)).bind fun b3 => ((bif b3 then some true else ((idx z5.1 z5.2.2.1.2.1).bind fun v5 => some (v5.2.1 != z5.2.1))).bind fun b4 => some b4))) else some false).bind fun b5 =>
      bif b5 then
       some (.inr (.inl (15,())))
      else
       some (.inl (z5.1,(wrap .i64 (z5.2.1 + 1)),()))))
 else
  some (.inr (.inr ()))
def gba_58F (x:(List Y14×Int×Unit)):=gba_58r x.1 x.2.1
def gba_58 (x0:List Y14) (x1:Int):=loopL gba_58F (x0,x1,())
def gba (x0:List Y14):Option (Int×Unit) :=
 bif decide ((x0.length:Int) > 16) then
  some (2,())
 else
  (gba_58 x0 0).bind fun z6 =>
  sumElim z6 (fun z7 =>
   some (z7.1,()))
   (fun z8 =>
   some (0,()))
def gbb_122r (x0:List (Int×Bool)) (x1:List Y2) (x2:List (Int×Bool×Bool×List (Int×Int))) (x3:List Y14) (x4:Int):Option (((List (Int×Bool)×List Y2×List (Int×Bool×Bool×List (Int×Int))×List Y14×Unit)×Int×Unit) ⊕ ((Int×Unit) ⊕ ((List (Int×Bool)×List Y2×List (Int×Bool×Bool×List (Int×Int))×List Y14×Unit)×Unit))) :=
 bif decide (x4 < (x2.length:Int)) then
  (idx x2 x4).bind fun v0 =>
  (gaz v0.1 v0.2.1 v0.2.2.1 v0.2.2.2).bind fun y0 =>
  bif (y0.1 != 0) then
   some (.inr (.inl (y0.1,())))
  else
   (idx x2 x4).bind fun v1 =>
   bif decide (v1.1 ≥ (x1.length:Int)) then
    some (.inr (.inl (4,())))
   else
    some (.inl ((x0,x1,x2,x3,()),(wrap .i64 (x4 + 1)),()))
 else
  some (.inr (.inr ((x0,x1,x2,x3,()),())))
def gbb_122F (x:((List (Int×Bool)×List Y2×List (Int×Bool×Bool×List (Int×Int))×List Y14×Unit)×Int×Unit)):=gbb_122r x.1.1 x.1.2.1 x.1.2.2.1 x.1.2.2.2.1 x.2.1
def gbb_122 (x0:List (Int×Bool)) (x1:List Y2) (x2:List (Int×Bool×Bool×List (Int×Int))) (x3:List Y14) (x4:Int):=loopL gbb_122F ((x0,x1,x2,x3,()),x4,())
def gbb_506r (x0:List (Int×Bool)) (x1:List Y2) (x2:List (Int×Bool×Bool×List (Int×Int))) (x3:List Y14) (x4:Int):Option (((List (Int×Bool)×List Y2×List (Int×Bool×Bool×List (Int×Int))×List Y14×Unit)×Int×Unit) ⊕ ((Int×Unit) ⊕ (Unit))) :=
 bif decide (x4 < (x3.length:Int)) then
  (idx x3 x4).bind fun v2 =>
  bif decide (v2.1 ≥ (x1.length:Int)) then
   some (.inr (.inl (4,())))
  else
   some (.inl ((x0,x1,x2,x3,()),(wrap .i64 (x4 + 1)),()))
 else
  some (.inr (.inr ()))
def gbb_506F (x:((List (Int×Bool)×List Y2×List (Int×Bool×Bool×List (Int×Int))×List Y14×Unit)×Int×Unit)):=gbb_506r x.1.1 x.1.2.1 x.1.2.2.1 x.1.2.2.2.1 x.2.1
def gbb_506 (x0:List (Int×Bool)) (x1:List Y2) (x2:List (Int×Bool×Bool×List (Int×Int))) (x3:List Y14) (x4:Int):=loopL gbb_506F ((x0,x1,x2,x3,()),x4,())
def gbb (x0:List (Int×Bool)) (x1:List Y2) (x2:List (Int×Bool×Bool×List (Int×Int))) (x3:List Y14):Option (Int×Unit) :=
 (gay x0 x1).bind fun y1 =>
 bif (y1.1 != 0) then
  some (y1.1,())
 else
  bif decide ((x2.length:Int) > 8) then
   some (2,())
  else
   (gbb_122 x0 x1 x2 x3 0).bind fun z0 =>
   sumElim z0 (fun z1 =>
    some (z1.1,()))
    (fun z2 =>
    (gba z2.1.2.2.2.1).bind fun y2 =>
    bif (y2.1 != 0) then
     some (y2.1,())
    else
     (gbb_506 z2.1.1 z2.1.2.1 z2.1.2.2.1 z2.1.2.2.2.1 0).bind fun z3 =>
     sumElim z3 (fun z4 =>
      some (z4.1,()))
      (fun z5 =>
      some (0,())))
def gbc_58r (x0:List (Int×Bool)) (x1:List Y2) (x2:List (Int×Bool×Bool×List (Int×Int))) (x3:List Y14) (x4 x5:List Int) (x6:Int):Option (((List (Int×Bool)×List Y2×List (Int×Bool×Bool×List (Int×Int))×List Y14×Unit)×Y9×Int×Unit) ⊕ ((Bool×Unit) ⊕ ((List (Int×Bool)×List Y2×List (Int×Bool×Bool×List (Int×Int))×List Y14×Unit)×Y9×Unit))) :=
 bif decide (x6 < (x4.length:Int)) then
  (idx x4 x6).bind fun v0 =>
  (bif decide (v0 < (-1)) then some true else ((idx x4 x6).bind fun v1 => some (decide (v1 > 2)))).bind fun b0 =>
  bif b0 then
   some (.inr (.inl (false,())))
  else
   some (.inl ((x0,x1,x2,x3,()),(x4,x5,()),(wrap .i64 (x6 + 1)),()))
 else
  some (.inr (.inr ((x0,x1,x2,x3,()),(x4,x5,()),())))
def gbc_58F (x:((List (Int×Bool)×List Y2×List (Int×Bool×Bool×List (Int×Int))×List Y14×Unit)×Y9×Int×Unit)):=gbc_58r x.1.1 x.1.2.1 x.1.2.2.1 x.1.2.2.2.1 x.2.1.1 x.2.1.2.1 x.2.2.1
def gbc_58 (x0:List (Int×Bool)) (x1:List Y2) (x2:List (Int×Bool×Bool×List (Int×Int))) (x3:List Y14) (x4 x5:List Int) (x6:Int):=loopL gbc_58F ((x0,x1,x2,x3,()),(x4,x5,()),x6,())
def gbc_122r (x0:List (Int×Bool)) (x1:List Y2) (x2:List (Int×Bool×Bool×List (Int×Int))) (x3:List Y14) (x4 x5:List Int) (x6:Int):Option (((List (Int×Bool)×List Y2×List (Int×Bool×Bool×List (Int×Int))×List Y14×Unit)×Y9×Int×Unit) ⊕ ((Bool×Unit) ⊕ (Unit))) :=
 bif decide (x6 < (x5.length:Int)) then
  (idx x5 x6).bind fun v2 =>
  (bif decide (v2 < (-1)) then some true else ((idx x5 x6).bind fun v3 => ((idx x3 x6).bind fun v4 => some (decide (v3 ≥ (v4.2.2.length:Int)))))).bind fun b1 =>
  bif b1 then
   some (.inr (.inl (false,())))
  else
   some (.inl ((x0,x1,x2,x3,()),(x4,x5,()),(wrap .i64 (x6 + 1)),()))
 else
  some (.inr (.inr ()))
def gbc_122F (x:((List (Int×Bool)×List Y2×List (Int×Bool×Bool×List (Int×Int))×List Y14×Unit)×Y9×Int×Unit)):=gbc_122r x.1.1 x.1.2.1 x.1.2.2.1 x.1.2.2.2.1 x.2.1.1 x.2.1.2.1 x.2.2.1
def gbc_122 (x0:List (Int×Bool)) (x1:List Y2) (x2:List (Int×Bool×Bool×List (Int×Int))) (x3:List Y14) (x4 x5:List Int) (x6:Int):=loopL gbc_122F ((x0,x1,x2,x3,()),(x4,x5,()),x6,())
def gbc (x0:List (Int×Bool)) (x1:List Y2) (x2:List (Int×Bool×Bool×List (Int×Int))) (x3:List Y14) (x4 x5:List Int):Option (Bool×Unit) :=
 (gbb x0 x1 x2 x3).bind fun y0 =>
 (bif (y0.1 != 0) then some true else some ((x4.length:Int) != (x2.length:Int))).bind fun b2 =>
 (bif b2 then some true else some ((x5.length:Int) != (x3.length:Int))).bind fun b3 =>
 bif b3 then
  some (false,())
 else
  (gbc_58 x0 x1 x2 x3 x4 x5 0).bind fun z0 =>
  sumElim z0 (fun z1 =>
   some (z1.1,()))
   (fun z2 =>
   (gbc_122 z2.1.1 z2.1.2.1 z2.1.2.2.1 z2.1.2.2.2.1 z2.2.1.1 z2.2.1.2.1 0).bind fun z3 =>
   sumElim z3 (fun z4 =>
    some (z4.1,()))
    (fun z5 =>
    some (true,())))
def gbd (x0:List (Int×Bool)) (x1:List Y2) (x2:List (Int×Bool×Bool×List (Int×Int))) (x3:List Y14) (x4 x5:List Int) (x6:Int):Option (Bool×Unit) :=
 (gbc x0 x1 x2 x3 x4 x5).bind fun y0 =>
 (bif y0.1 then some (decide (x6 ≥ 0)) else some false).bind fun b0 =>
 (bif b0 then some (decide (x6 < (x1.length:Int))) else some false).bind fun b1 =>
 (bif b1 then ((idx x1 x6).bind fun v0 => some (!v0.2.2.2.2.2.1)) else some false).bind fun b2 =>
 some (b2,())
def gbe_122r (x0 x1:Int) (x2:List (Int×Bool)) (x3:List Y2) (x4:List (Int×Bool×Bool×List (Int×Int))) (x5:List Y14) (x6 x7:List Int) (x8 x9 x10 x11 x12 x13:Int) (x14 x15:Bool) (x16 x17 x18 x19 x20 x21 x22:Int):Option ((Int×Int×(List (Int×Bool)×List Y2×List (Int×Bool×Bool×List (Int×Int))×List Y14×Unit)×Y9×Y16×Y1×Y16×Int×Unit) ⊕ (Int×Int×(List (Int×Bool)×List Y2×List (Int×Bool×Bool×List (Int×Int))×List Y14×Unit)×Y9×Y16×Y1×Y16×Unit)) :=
 bif decide (x22 < (x5.length:Int)) then
  (idx x5 x22).bind fun v0 =>
  bif (v0.1 == x0) then
   (idx x5 x22).bind fun v1 =>
   (idx x7 x22).bind fun v2 =>
   (gai v1.1 v1.2.1 v1.2.2 v2).bind fun y0 =>
   some (.inl (x0,x1,(x2,x3,x4,x5,()),(x6,x7,()),(x8,x9,()),(x10,x11,x12,x13,x14,x15,x16,x17,x18,x19,()),((wrap .i64 (x20 + y0.1.1)),(wrap .i64 (x21 + y0.1.2.1)),()),(wrap .i64 (x22 + 1)),()))
  else
   some (.inl (x0,x1,(x2,x3,x4,x5,()),(x6,x7,()),(x8,x9,()),(x10,x11,x12,x13,x14,x15,x16,x17,x18,x19,()),(x20,x21,()),(wrap .i64 (x22 + 1)),()))
 else
  some (.inr (x0,x1,(x2,x3,x4,x5,()),(x6,x7,()),(x8,x9,()),(x10,x11,x12,x13,x14,x15,x16,x17,x18,x19,()),(x20,x21,()),()))
def gbe_122F (x:(Int×Int×(List (Int×Bool)×List Y2×List (Int×Bool×Bool×List (Int×Int))×List Y14×Unit)×Y9×Y16×Y1×Y16×Int×Unit)):=gbe_122r x.1 x.2.1 x.2.2.1.1 x.2.2.1.2.1 x.2.2.1.2.2.1 x.2.2.1.2.2.2.1 x.2.2.2.1.1 x.2.2.2.1.2.1 x.2.2.2.2.1.1 x.2.2.2.2.1.2.1 x.2.2.2.2.2.1.1 x.2.2.2.2.2.1.2.1 x.2.2.2.2.2.1.2.2.1 x.2.2.2.2.2.1.2.2.2.1 x.2.2.2.2.2.1.2.2.2.2.1 x.2.2.2.2.2.1.2.2.2.2.2.1 x.2.2.2.2.2.1.2.2.2.2.2.2.1 x.2.2.2.2.2.1.2.2.2.2.2.2.2.1 x.2.2.2.2.2.1.2.2.2.2.2.2.2.2.1 x.2.2.2.2.2.1.2.2.2.2.2.2.2.2.2.1 x.2.2.2.2.2.2.1.1 x.2.2.2.2.2.2.1.2.1 x.2.2.2.2.2.2.2.1
def gbe_122 (x0 x1:Int) (x2:List (Int×Bool)) (x3:List Y2) (x4:List (Int×Bool×Bool×List (Int×Int))) (x5:List Y14) (x6 x7:List Int) (x8 x9 x10 x11 x12 x13:Int) (x14 x15:Bool) (x16 x17 x18 x19 x20 x21 x22:Int):=loopL gbe_122F (x0,x1,(x2,x3,x4,x5,()),(x6,x7,()),(x8,x9,()),(x10,x11,x12,x13,x14,x15,x16,x17,x18,x19,()),(x20,x21,()),x22,())
def gbe_2042r (x0 x1:Int) (x2:List (Int×Bool)) (x3:List Y2) (x4:List (Int×Bool×Bool×List (Int×Int))) (x5:List Y14) (x6 x7:List Int) (x8 x9 x10 x11 x12:Int):Option ((Int×Int×(List (Int×Bool)×List Y2×List (Int×Bool×Bool×List (Int×Int))×List Y14×Unit)×Y9×Y16×Y16×Int×Unit) ⊕ (Y16×Y16×Unit)) :=
 bif decide (x12 < (x4.length:Int)) then
  (idx x4 x12).bind fun v3 =>
  bif (v3.1 == x0) then
   (idx x4 x12).bind fun v4 =>
   (idx x6 x12).bind fun v5 =>
   (gan v4.1 v4.2.1 v4.2.2.1 v4.2.2.2 v5 x1).bind fun y1 =>
   some (.inl (x0,x1,(x2,x3,x4,x5,()),(x6,x7,()),(x8,x9,()),((wrap .i64 (x10 - y1.1.2.1)),(wrap .i64 (x11 - y1.1.1)),()),(wrap .i64 (x12 + 1)),()))
  else
   some (.inl (x0,x1,(x2,x3,x4,x5,()),(x6,x7,()),(x8,x9,()),(x10,x11,()),(wrap .i64 (x12 + 1)),()))
 else
  some (.inr ((x8,x9,()),(x10,x11,()),()))
def gbe_2042F (x:(Int×Int×(List (Int×Bool)×List Y2×List (Int×Bool×Bool×List (Int×Int))×List Y14×Unit)×Y9×Y16×Y16×Int×Unit)):=gbe_2042r x.1 x.2.1 x.2.2.1.1 x.2.2.1.2.1 x.2.2.1.2.2.1 x.2.2.1.2.2.2.1 x.2.2.2.1.1 x.2.2.2.1.2.1 x.2.2.2.2.1.1 x.2.2.2.2.1.2.1 x.2.2.2.2.2.1.1 x.2.2.2.2.2.1.2.1 x.2.2.2.2.2.2.1
def gbe_2042 (x0 x1:Int) (x2:List (Int×Bool)) (x3:List Y2) (x4:List (Int×Bool×Bool×List (Int×Int))) (x5:List Y14) (x6 x7:List Int) (x8 x9 x10 x11 x12:Int):=loopL gbe_2042F (x0,x1,(x2,x3,x4,x5,()),(x6,x7,()),(x8,x9,()),(x10,x11,()),x12,())
def gbe_127 (x0 x1:Int) (x2:List (Int×Bool)) (x3:List Y2) (x4:List (Int×Bool×Bool×List (Int×Int))) (x5:List Y14) (x6 x7:List Int) (x8 x9 x10 x11 x12 x13:Int) (x14 x15:Bool) (x16 x17 x18 x19 x20 x21:Int):Option (Y16×Unit) :=
 (gbe_2042 x0 x1 x2 x3 x4 x5 x6 x7 x8 x9 (wrap .i64 (x20 - x19)) (wrap .i64 (x21 - x18)) 0).bind fun z0 =>
 some z0.2
def gbe (x0:List (Int×Bool)) (x1:List Y2) (x2:List (Int×Bool×Bool×List (Int×Int))) (x3:List Y14) (x4 x5:List Int) (x6 x7:Int):Option (Y16×Unit) :=
 (idx x1 x6).bind fun v6 =>
 (gbe_122 x6 x7 x0 x1 x2 x3 x4 x5 0 0 v6.1 v6.2.1 v6.2.2.1 v6.2.2.2.1 v6.2.2.2.2.1 v6.2.2.2.2.2.1 v6.2.2.2.2.2.2.1 v6.2.2.2.2.2.2.2.1 v6.2.2.2.2.2.2.2.2.1 v6.2.2.2.2.2.2.2.2.2 v6.2.2.2.2.2.2.1 v6.2.2.2.2.2.2.2.1 0).bind fun z1 =>
 bif decide (z1.2.1 < 0) then
  (gbe_127 z1.1 z1.2.1 z1.2.2.1.1 z1.2.2.1.2.1 z1.2.2.1.2.2.1 z1.2.2.1.2.2.2.1 z1.2.2.2.1.1 z1.2.2.2.1.2.1 z1.2.2.2.2.1.1 z1.2.2.2.2.1.2.1 z1.2.2.2.2.2.1.1 z1.2.2.2.2.2.1.2.1 z1.2.2.2.2.2.1.2.2.1 z1.2.2.2.2.2.1.2.2.2.1 z1.2.2.2.2.2.1.2.2.2.2.1 z1.2.2.2.2.2.1.2.2.2.2.2.1 z1.2.2.2.2.2.1.2.2.2.2.2.2.1 z1.2.2.2.2.2.1.2.2.2.2.2.2.2.1 z1.2.2.2.2.2.1.2.2.2.2.2.2.2.2.1 z1.2.2.2.2.2.1.2.2.2.2.2.2.2.2.2.1 (wrap .i64 (0 - (wrap .i64 ((wrap .i64 (z1.2.2.2.2.2.2.1.2.1 * z1.2.1)) * z1.2.1)))) (wrap .i64 (0 - (wrap .i64 ((wrap .i64 (z1.2.2.2.2.2.2.1.1 * z1.2.1)) * z1.2.1))))).bind fun z2 =>
  some (z2.1,())
 else
  (gbe_127 z1.1 z1.2.1 z1.2.2.1.1 z1.2.2.1.2.1 z1.2.2.1.2.2.1 z1.2.2.1.2.2.2.1 z1.2.2.2.1.1 z1.2.2.2.1.2.1 z1.2.2.2.2.1.1 z1.2.2.2.2.1.2.1 z1.2.2.2.2.2.1.1 z1.2.2.2.2.2.1.2.1 z1.2.2.2.2.2.1.2.2.1 z1.2.2.2.2.2.1.2.2.2.1 z1.2.2.2.2.2.1.2.2.2.2.1 z1.2.2.2.2.2.1.2.2.2.2.2.1 z1.2.2.2.2.2.1.2.2.2.2.2.2.1 z1.2.2.2.2.2.1.2.2.2.2.2.2.2.1 z1.2.2.2.2.2.1.2.2.2.2.2.2.2.2.1 z1.2.2.2.2.2.1.2.2.2.2.2.2.2.2.2.1 (wrap .i64 ((wrap .i64 (z1.2.2.2.2.2.2.1.1 * z1.2.1)) * z1.2.1)) (wrap .i64 ((wrap .i64 (z1.2.2.2.2.2.2.1.2.1 * z1.2.1)) * z1.2.1))).bind fun z3 =>
  some (z3.1,())
def gbf (x0:List (Int×Bool)) (x1:List Y2) (x2:List (Int×Bool×Bool×List (Int×Int))) (x3:List Y14) (x4 x5:List Int) (x6 x7:Int):Option (Y16×Unit) :=
 (gbd x0 x1 x2 x3 x4 x5 x6).bind fun y0 =>
 (bif (!y0.1) then some true else some (decide (x7 < (-1048577)))).bind fun b0 =>
 (bif b0 then some true else some (decide (x7 > 1048577))).bind fun b1 =>
 bif b1 then
  some ((0,0,()),())
 else
  (gbe x0 x1 x2 x3 x4 x5 x6 x7).bind fun y1 =>
  some (y1.1,())
def gbg_250r (x0:List (Int×Bool)) (x1:List Y2) (x2:List (Int×Bool×Bool×List (Int×Int))) (x3:List Y14) (x4 x5 x6 x7:List Int) (x8:Int):Option (((List (Int×Bool)×List Y2×List (Int×Bool×Bool×List (Int×Int))×List Y14×Unit)×Y9×Y9×Int×Unit) ⊕ ((Int×Unit) ⊕ ((List (Int×Bool)×List Y2×List (Int×Bool×Bool×List (Int×Int))×List Y14×Unit)×Y9×Y9×Unit))) :=
 bif decide (x8 < (x6.length:Int)) then
  (idx x6 x8).bind fun v0 =>
  (bif decide (v0 < (-70368744177664)) then some true else ((idx x6 x8).bind fun v1 => some (decide (v1 > 70368744177664)))).bind fun b0 =>
  bif b0 then
   some (.inr (.inl (1,())))
  else
   some (.inl ((x0,x1,x2,x3,()),(x4,x5,()),(x6,x7,()),(wrap .i64 (x8 + 1)),()))
 else
  some (.inr (.inr ((x0,x1,x2,x3,()),(x4,x5,()),(x6,x7,()),())))
def gbg_250F (x:((List (Int×Bool)×List Y2×List (Int×Bool×Bool×List (Int×Int))×List Y14×Unit)×Y9×Y9×Int×Unit)):=gbg_250r x.1.1 x.1.2.1 x.1.2.2.1 x.1.2.2.2.1 x.2.1.1 x.2.1.2.1 x.2.2.1.1 x.2.2.1.2.1 x.2.2.2.1
def gbg_250 (x0:List (Int×Bool)) (x1:List Y2) (x2:List (Int×Bool×Bool×List (Int×Int))) (x3:List Y14) (x4 x5 x6 x7:List Int) (x8:Int):=loopL gbg_250F ((x0,x1,x2,x3,()),(x4,x5,()),(x6,x7,()),x8,())
def gbg_506r (x0:List (Int×Bool)) (x1:List Y2) (x2:List (Int×Bool×Bool×List (Int×Int))) (x3:List Y14) (x4 x5 x6 x7:List Int) (x8:Int):Option (((List (Int×Bool)×List Y2×List (Int×Bool×Bool×List (Int×Int))×List Y14×Unit)×Y9×Y9×Int×Unit) ⊕ ((Int×Unit) ⊕ ((List (Int×Bool)×List Y2×List (Int×Bool×Bool×List (Int×Int))×List Y14×Unit)×Y9×Y9×Unit))) :=
 bif decide (x8 < (x7.length:Int)) then
  (idx x7 x8).bind fun v2 =>
  (bif decide (v2 < (-1048576)) then some true else ((idx x7 x8).bind fun v3 => some (decide (v3 > 1048576)))).bind fun b1 =>
  bif b1 then
   some (.inr (.inl (1,())))
  else
   some (.inl ((x0,x1,x2,x3,()),(x4,x5,()),(x6,x7,()),(wrap .i64 (x8 + 1)),()))
 else
  some (.inr (.inr ((x0,x1,x2,x3,()),(x4,x5,()),(x6,x7,()),())))
def gbg_506F (x:((List (Int×Bool)×List Y2×List (Int×Bool×Bool×List (Int×Int))×List Y14×Unit)×Y9×Y9×Int×Unit)):=gbg_506r x.1.1 x.1.2.1 x.1.2.2.1 x.1.2.2.2.1 x.2.1.1 x.2.1.2.1 x.2.2.1.1 x.2.2.1.2.1 x.2.2.2.1
def gbg_506 (x0:List (Int×Bool)) (x1:List Y2) (x2:List (Int×Bool×Bool×List (Int×Int))) (x3:List Y14) (x4 x5 x6 x7:List Int) (x8:Int):=loopL gbg_506F ((x0,x1,x2,x3,()),(x4,x5,()),(x6,x7,()),x8,())
def gbg_2042r (x0:List (Int×Bool)) (x1:List Y2) (x2:List (Int×Bool×Bool×List (Int×Int))) (x3:List Y14) (x4 x5 x6 x7 x8:List Int) (x9:Int):Option (((List (Int×Bool)×List Y2×List (Int×Bool×Bool×List (Int×Int))×List Y14×Unit)×Y9×Y9×List Int×Int×Unit) ⊕ ((Int×Unit) ⊕ ((List (Int×Bool)×List Y2×List (Int×Bool×Bool×List (Int×Int))×List Y14×Unit)×Y9×List Int×Unit))) :=
 bif decide (x9 < (x7.length:Int)) then
  (idx x1 x9).bind fun v4 =>
  (bif v4.2.2.2.2.2.1 then ((idx x7 x9).bind fun v5 => some (v5 != 0)) else some false).bind fun b2 =>
  bif b2 then
   some (.inr (.inl (10,())))
  else
   (idx x6 v4.1).bind fun v6 =>
   (idx x6 v4.2.1).bind fun v7 =>
   (idx x7 x9).bind fun v8 =>
   (gbf x0 x1 x2 x3 x4 x5 x9 v8).bind fun y0 =>
   (bif (!v4.2.2.2.2.2.1) then ((bif decide ((wrap .i64 (v6 - v7)) < y0.1.1) then some true else some (decide ((wrap .i64 (v6 - v7)) > y0.1.2.1))).bind fun b3 => some b3) else some false).bind fun b4 =>
   bif b4 then
    some (.inr (.inl (10,())))
   else
    bif (decide (0≤v4.1) && decide (v4.1 < (x8.length:Int))) then
    (x8[v4.1.toNat]?).bind fun v9 =>
    (idx x7 x9).bind fun v10 =>
    bif (decide (0≤v4.1) && decide (v4.1 < (x8.length:Int))) then
    (x8[v4.1.toNat]?).bind fun v11 =>
    bif (decide (0≤v4.2.1) && decide (v4.2.1 < (((x8).set v4.1.toNat (wrap .i64 (v9 + v10))).length:Int))) then
    (((x8).set v4.1.toNat (wrap .i64 (v9 + v10)))[v4.2.1.toNat]?).bind fun v12 =>
    (idx x7 x9).bind fun v13 =>
    bif (decide (0≤v4.2.1) && decide (v4.2.1 < (((x8).set v4.1.toNat (wrap .i64 (v9 + v10))).length:Int))) then
    (((x8).set v4.1.toNat (wrap .i64 (v9 + v10)))[v4.2.1.toNat]?).bind fun v14 =>
    some (.inl ((x0,x1,x2,x3,()),(x4,x5,()),(x6,x7,()),((x8).set v4.1.toNat (wrap .i64 (v9 + v10))).set v4.2.1.toNat (wrap .i64 (v12 - v13)),(wrap .i64 (x9 + 1)),()))
    else none
    else none
    else none
    else none
 else
  some (.inr (.inr ((x0,x1,x2,x3,()),(x6,x7,()),x8,())))
def gbg_2042F (x:((List (Int×Bool)×List Y2×List (Int×Bool×Bool×List (Int×Int))×List Y14×Unit)×Y9×Y9×List Int×Int×Unit)):=gbg_2042r x.1.1 x.1.2.1 x.1.2.2.1 x.1.2.2.2.1 x.2.1.1 x.2.1.2.1 x.2.2.1.1 x.2.2.1.2.1 x.2.2.2.1 x.2.2.2.2.1
def gbg_2042 (x0:List (Int×Bool)) (x1:List Y2) (x2:List (Int×Bool×Bool×List (Int×Int))) (x3:List Y14) (x4 x5 x6 x7 x8:List Int) (x9:Int):=loopL gbg_2042F ((x0,x1,x2,x3,()),(x4,x5,()),(x6,x7,()),x8,x9,())
def gbg_4090r (x0:List (Int×Bool)) (x1:List Y2) (x2:List (Int×Bool×Bool×List (Int×Int))) (x3:List Y14) (x4 x5 x6:List Int) (x7:Int):Option (((List (Int×Bool)×List Y2×List (Int×Bool×Bool×List (Int×Int))×List Y14×Unit)×Y9×List Int×Int×Unit) ⊕ ((Int×Unit) ⊕ (Unit))) :=
 bif decide (x7 < (x6.length:Int)) then
  (idx x0 x7).bind fun v15 =>
  (bif v15.2 then ((idx x4 x7).bind fun v16 => some (v16 != 0)) else some false).bind fun b5 =>
  (bif b5 then some true else ((idx x0 x7).bind fun v17 => ((bif (!v17.2) then (bif (decide (0≤x7) && decide (x7 < (x6.length:Int))) then ((x6[x7.toNat]?).bind fun v18 => some (v18 != 0)) else none) else some false).bind fun b6 => some b6))).bind fun b7 =>
  bif b7 then
   some (.inr (.inl (10,())))
  else
   some (.inl ((x0,x1,x2,x3,()),(x4,x5,()),x6,(wrap .i64 (x7 + 1)),()))
 else
  some (.inr (.inr ()))
def gbg_4090F (x:((List (Int×Bool)×List Y2×List (Int×Bool×Bool×List (Int×Int))×List Y14×Unit)×Y9×List Int×Int×Unit)):=gbg_4090r x.1.1 x.1.2.1 x.1.2.2.1 x.1.2.2.2.1 x.2.1.1 x.2.1.2.1 x.2.2.1 x.2.2.2.1
def gbg_4090 (x0:List (Int×Bool)) (x1:List Y2) (x2:List (Int×Bool×Bool×List (Int×Int))) (x3:List Y14) (x4 x5 x6:List Int) (x7:Int):=loopL gbg_4090F ((x0,x1,x2,x3,()),(x4,x5,()),x6,x7,())
def gbg (x0:List (Int×Bool)) (x1:List Y2) (x2:List (Int×Bool×Bool×List (Int×Int))) (x3:List Y14) (x4 x5 x6 x7:List Int):Option (Int×Unit) :=
 (gbb x0 x1 x2 x3).bind fun y1 =>
 bif (y1.1 != 0) then
  some (y1.1,())
 else
  (gbc x0 x1 x2 x3 x4 x5).bind fun y2 =>
  bif (!y2.1) then
   some (21,())
  else
   (bif ((x6.length:Int) != (x0.length:Int)) then some true else some ((x7.length:Int) != (x1.length:Int))).bind fun b8 =>
   bif b8 then
    some (11,())
   else
    (gbg_250 x0 x1 x2 x3 x4 x5 x6 x7 0).bind fun z0 =>
    sumElim z0 (fun z1 =>
     some (z1.1,()))
     (fun z2 =>
     (gbg_506 z2.1.1 z2.1.2.1 z2.1.2.2.1 z2.1.2.2.2.1 z2.2.1.1 z2.2.1.2.1 z2.2.2.1.1 z2.2.2.1.2.1 0).bind fun z3 =>
     sumElim z3 (fun z4 =>
      some (z4.1,()))
      (fun z5 =>
      bif (decide (0≤(z5.2.2.1.1.length:Int)) && (decide ((z5.2.2.1.1.length:Int)≤(z5.2.2.1.1.length:Int)) && decide ((z5.2.2.1.1.length:Int) * ((8:Nat):Int)≤((140737488355328:Nat):Int)))) then
      (gbg_2042 z5.1.1 z5.1.2.1 z5.1.2.2.1 z5.1.2.2.2.1 z5.2.1.1 z5.2.1.2.1 z5.2.2.1.1 z5.2.2.1.2.1 (List.replicate (z5.2.2.1.1.length:Int).toNat (0:Int)) 0).bind fun z6 =>
      sumElim z6 (fun z7 =>
       some (z7.1,()))
       (fun z8 =>
       (gbg_4090 z8.1.1 z8.1.2.1 z8.1.2.2.1 z8.1.2.2.2.1 z8.2.1.1 z8.2.1.2.1 z8.2.2.1 0).bind fun z9 =>
       sumElim z9 (fun z10 =>
        some (z10.1,()))
        (fun z11 =>
        some (0,())))
      else none))
def gbh_26r (x0:List Int) (x1:Int):Option (Y12 ⊕ ((Bool×Unit) ⊕ (Unit))) :=
 bif decide (x1 < (x0.length:Int)) then
  (idx x0 x1).bind fun v0 =>
  (bif decide (v0 < (-70368744177664)) then some true else ((idx x0 x1).bind fun v1 => some (decide (v1 > 70368744177664)))).bind fun b0 =>
  bif b0 then
   some (.inr (.inl (false,())))
  else
   some (.inl (x0,(wrap .i64 (x1 + 1)),()))
 else
  some (.inr (.inr ()))
def gbh_26F (x:Y12):=gbh_26r x.1 x.2.1
def gbh_26 (x0:List Int) (x1:Int):=loopL gbh_26F (x0,x1,())
def gbh (x0:List Int):Option (Bool×Unit) :=
 (gbh_26 x0 0).bind fun z0 =>
 sumElim z0 (fun z1 =>
  some (z1.1,()))
  (fun z2 =>
  some (true,()))
def gbi_3734r (x0:List (Int×Bool)) (x1:List Y2) (x2:List Bool) (x3:Bool) (x4:Int):Option (((List (Int×Bool)×List Y2×Unit)×List Bool×Bool×Int×Unit) ⊕ ((List (Int×Bool)×List Y2×Unit)×List Bool×Bool×Unit)) :=
 bif decide (x4 < (x1.length:Int)) then
  (idx x1 x4).bind fun v0 =>
  (bif (!v0.2.2.2.2.2.1) then (bif (decide (0≤v0.1) && decide (v0.1 < (x2.length:Int))) then ((x2[v0.1.toNat]?).bind fun v1 => (bif (decide (0≤v0.2.1) && decide (v0.2.1 < (x2.length:Int))) then ((x2[v0.2.1.toNat]?).bind fun v2 => some (!(v1 == v2))) else none)) else none) else some false).bind fun b0 =>
  bif b0 then
   bif (decide (0≤v0.1) && decide (v0.1 < (x2.length:Int))) then
   (x2[v0.1.toNat]?).bind fun v3 =>
   bif (decide (0≤v0.2.1) && decide (v0.2.1 < (((x2).set v0.1.toNat true).length:Int))) then
   (((x2).set v0.1.toNat true)[v0.2.1.toNat]?).bind fun v4 =>
   some (.inl ((x0,x1,()),((x2).set v0.1.toNat true).set v0.2.1.toNat true,true,(wrap .i64 (x4 + 1)),()))
   else none
   else none
  else
   some (.inl ((x0,x1,()),x2,x3,(wrap .i64 (x4 + 1)),()))
 else
  some (.inr ((x0,x1,()),x2,x3,()))
def gbi_3734F (x:((List (Int×Bool)×List Y2×Unit)×List Bool×Bool×Int×Unit)):=gbi_3734r x.1.1 x.1.2.1 x.2.1 x.2.2.1 x.2.2.2.1
def gbi_3734 (x0:List (Int×Bool)) (x1:List Y2) (x2:List Bool) (x3:Bool) (x4:Int):=loopL gbi_3734F ((x0,x1,()),x2,x3,x4,())
def gbi_58r (x0:List (Int×Bool)) (x1:List Y2) (x2:List Bool) (x3:Bool):Option (((List (Int×Bool)×List Y2×Unit)×List Bool×Bool×Unit) ⊕ Y17) :=
 bif x3 then
  (gbi_3734 x0 x1 x2 false 0).bind fun z0 =>
  some (.inl z0)
 else
  some (.inr (x2,()))
def gbi_58F (x:((List (Int×Bool)×List Y2×Unit)×List Bool×Bool×Unit)):=gbi_58r x.1.1 x.1.2.1 x.2.1 x.2.2.1
def gbi_58 (x0:List (Int×Bool)) (x1:List Y2) (x2:List Bool) (x3:Bool):=loopL gbi_58F ((x0,x1,()),x2,x3,())
def gbi (x0:List (Int×Bool)) (x1:List Y2) (x2:List Bool):Option Y17 :=
 bif decide ((0 + x2.length) * 1≤140737488355328) then
 (gbi_58 x0 x1 x2 true).bind fun z1 =>
 some (z1.1,())
 else none
def gbj_58r (x0:List (Int×Bool)) (x1:List Y2) (x2:List Bool) (x3:Int):Option (((List (Int×Bool)×List Y2×Unit)×List Bool×Int×Unit) ⊕ ((List (Int×Bool)×List Y2×Unit)×List Bool×Unit)) :=
 bif decide (x3 < (x0.length:Int)) then
  (idx x0 x3).bind fun v0 =>
  bif (decide (0≤x3) && decide (x3 < (x2.length:Int))) then
  (x2[x3.toNat]?).bind fun v1 =>
  some (.inl ((x0,x1,()),(x2).set x3.toNat v0.2,(wrap .i64 (x3 + 1)),()))
  else none
 else
  some (.inr ((x0,x1,()),x2,()))
def gbj_58F (x:((List (Int×Bool)×List Y2×Unit)×List Bool×Int×Unit)):=gbj_58r x.1.1 x.1.2.1 x.2.1 x.2.2.1
def gbj_58 (x0:List (Int×Bool)) (x1:List Y2) (x2:List Bool) (x3:Int):=loopL gbj_58F ((x0,x1,()),x2,x3,())
def gbj (x0:List (Int×Bool)) (x1:List Y2):Option Y17 :=
 bif (decide (0≤(x0.length:Int)) && (decide ((x0.length:Int)≤(x0.length:Int)) && decide ((x0.length:Int) * ((1:Nat):Int)≤((140737488355328:Nat):Int)))) then
 (gbj_58 x0 x1 (List.replicate (x0.length:Int).toNat (false:Bool)) 0).bind fun z0 =>
 (gbi z0.1.1 z0.1.2.1 z0.2.1).bind fun y0 =>
 some (y0.1,())
 else none
def gbk_58r (x0:List (Int×Bool)) (x1:List Y2) (x2:List Bool) (x3:Int):Option (((List (Int×Bool)×List Y2×Unit)×List Bool×Int×Unit) ⊕ Y17) :=
 bif decide (x3 < (x2.length:Int)) then
  bif (decide (0≤x3) && decide (x3 < (x2.length:Int))) then
  (x2[x3.toNat]?).bind fun v0 =>
  (bif (!v0) then some true else ((idx x0 x3).bind fun v1 => some v1.2)).bind fun b0 =>
  bif (decide (0≤x3) && decide (x3 < (x2.length:Int))) then
  (x2[x3.toNat]?).bind fun v2 =>
  some (.inl ((x0,x1,()),(x2).set x3.toNat b0,(wrap .i64 (x3 + 1)),()))
  else none
  else none
 else
  some (.inr (x2,()))
def gbk_58F (x:((List (Int×Bool)×List Y2×Unit)×List Bool×Int×Unit)):=gbk_58r x.1.1 x.1.2.1 x.2.1 x.2.2.1
def gbk_58 (x0:List (Int×Bool)) (x1:List Y2) (x2:List Bool) (x3:Int):=loopL gbk_58F ((x0,x1,()),x2,x3,())
def gbk (x0:List (Int×Bool)) (x1:List Y2):Option Y17 :=
 (gbj x0 x1).bind fun y0 =>
 (gbk_58 x0 x1 y0.1 0).bind fun z0 =>
 some (z0.1,())
def gbl_1018r (x0:List Int) (x1:List Bool) (x2:Int):Option ((List Int×List Bool×Int×Unit) ⊕ ((Int×Unit) ⊕ (Unit))) :=
 bif decide (x2 < (x0.length:Int)) then
  bif (decide (0≤x2) && decide (x2 < (x1.length:Int))) then
  (x1[x2.toNat]?).bind fun v0 =>
  (bif v0 then ((idx x0 x2).bind fun v1 => some (v1 != 0)) else some false).bind fun b0 =>
  bif b0 then
   some (.inr (.inl (12,())))
  else
   some (.inl (x0,x1,(wrap .i64 (x2 + 1)),()))
  else none
 else
  some (.inr (.inr ()))
def gbl_1018F (x:(List Int×List Bool×Int×Unit)):=gbl_1018r x.1 x.2.1 x.2.2.1
def gbl_1018 (x0:List Int) (x1:List Bool) (x2:Int):=loopL gbl_1018F (x0,x1,x2,())
def gbl (x0:List (Int×Bool)) (x1:List Y2) (x2:List (Int×Bool×Bool×List (Int×Int))) (x3:List Y14) (x4 x5 x6:List Int):Option (Int×Unit) :=
 (gbb x0 x1 x2 x3).bind fun y0 =>
 bif (y0.1 != 0) then
  some (y0.1,())
 else
  (gbc x0 x1 x2 x3 x4 x5).bind fun y1 =>
  bif (!y1.1) then
   some (21,())
  else
   bif ((x6.length:Int) != (x0.length:Int)) then
    some (11,())
   else
    (gbh x6).bind fun y2 =>
    bif (!y2.1) then
     some (1,())
    else
     (gbk x0 x1).bind fun y3 =>
     (gbl_1018 x6 y3.1 0).bind fun z0 =>
     sumElim z0 (fun z1 =>
      some (z1.1,()))
      (fun z2 =>
      some (0,()))
def gbm_28r (x0 x1:Int) (x2:List (Int×Bool)) (x3:List Y2) (x4:List (Int×Bool×Bool×List (Int×Int))) (x5:List Y14) (x6 x7:List Int) (x8 x9:Int):Option ((Int×Int×(List (Int×Bool)×List Y2×List (Int×Bool×Bool×List (Int×Int))×List Y14×Unit)×Y9×Int×Int×Unit) ⊕ (Int×Unit)) :=
 bif decide (x8 < x9) then
  (gbe x2 x3 x4 x5 x6 x7 x0 (wrap .i64 (x8 + (wrap .i64 (Int.tdiv (wrap .i64 ((wrap .i64 (x9 - x8)) + 1)) 2))))).bind fun y0 =>
  bif decide (y0.1.2.1≤x1) then
   some (.inl (x0,x1,(x2,x3,x4,x5,()),(x6,x7,()),(wrap .i64 (x8 + (wrap .i64 (Int.tdiv (wrap .i64 ((wrap .i64 (x9 - x8)) + 1)) 2)))),x9,()))
  else
   some (.inl (x0,x1,(x2,x3,x4,x5,()),(x6,x7,()),x8,(wrap .i64 ((wrap .i64 (x8 + (wrap .i64 (Int.tdiv (wrap .i64 ((wrap .i64 (x9 - x8)) + 1)) 2)))) - 1)),()))
 else
  some (.inr (x8,()))
def gbm_28F (x:(Int×Int×(List (Int×Bool)×List Y2×List (Int×Bool×Bool×List (Int×Int))×List Y14×Unit)×Y9×Int×Int×Unit)):=gbm_28r x.1 x.2.1 x.2.2.1.1 x.2.2.1.2.1 x.2.2.1.2.2.1 x.2.2.1.2.2.2.1 x.2.2.2.1.1 x.2.2.2.1.2.1 x.2.2.2.2.1 x.2.2.2.2.2.1
def gbm_28 (x0 x1:Int) (x2:List (Int×Bool)) (x3:List Y2) (x4:List (Int×Bool×Bool×List (Int×Int))) (x5:List Y14) (x6 x7:List Int) (x8 x9:Int):=loopL gbm_28F (x0,x1,(x2,x3,x4,x5,()),(x6,x7,()),x8,x9,())
def gbm (x0:List (Int×Bool)) (x1:List Y2) (x2:List (Int×Bool×Bool×List (Int×Int))) (x3:List Y14) (x4 x5:List Int) (x6 x7:Int):Option (Int×Unit) :=
 (gbm_28 x6 x7 x0 x1 x2 x3 x4 x5 (-1048577) 1048576).bind fun z0 =>
 some (z0.1,())
def gbn_28r (x0 x1:Int) (x2:List (Int×Bool)) (x3:List Y2) (x4:List (Int×Bool×Bool×List (Int×Int))) (x5:List Y14) (x6 x7:List Int) (x8 x9:Int):Option ((Int×Int×(List (Int×Bool)×List Y2×List (Int×Bool×Bool×List (Int×Int))×List Y14×Unit)×Y9×Int×Int×Unit) ⊕ (Int×Unit)) :=
 bif decide (x8 < x9) then
  (gbe x2 x3 x4 x5 x6 x7 x0 (wrap .i64 (x8 + (wrap .i64 (Int.tdiv (wrap .i64 (x9 - x8)) 2))))).bind fun y0 =>
  bif decide (y0.1.1 ≥ x1) then
   some (.inl (x0,x1,(x2,x3,x4,x5,()),(x6,x7,()),x8,(wrap .i64 (x8 + (wrap .i64 (Int.tdiv (wrap .i64 (x9 - x8)) 2)))),()))
  else
   some (.inl (x0,x1,(x2,x3,x4,x5,()),(x6,x7,()),(wrap .i64 ((wrap .i64 (x8 + (wrap .i64 (Int.tdiv (wrap .i64 (x9 - x8)) 2)))) + 1)),x9,()))
 else
  some (.inr (x8,()))
def gbn_28F (x:(Int×Int×(List (Int×Bool)×List Y2×List (Int×Bool×Bool×List (Int×Int))×List Y14×Unit)×Y9×Int×Int×Unit)):=gbn_28r x.1 x.2.1 x.2.2.1.1 x.2.2.1.2.1 x.2.2.1.2.2.1 x.2.2.1.2.2.2.1 x.2.2.2.1.1 x.2.2.2.1.2.1 x.2.2.2.2.1 x.2.2.2.2.2.1
def gbn_28 (x0 x1:Int) (x2:List (Int×Bool)) (x3:List Y2) (x4:List (Int×Bool×Bool×List (Int×Int))) (x5:List Y14) (x6 x7:List Int) (x8 x9:Int):=loopL gbn_28F (x0,x1,(x2,x3,x4,x5,()),(x6,x7,()),x8,x9,())
def gbn (x0:List (Int×Bool)) (x1:List Y2) (x2:List (Int×Bool×Bool×List (Int×Int))) (x3:List Y14) (x4 x5:List Int) (x6 x7:Int):Option (Int×Unit) :=
 (gbn_28 x6 x7 x0 x1 x2 x3 x4 x5 (-1048576) 1048577).bind fun z0 =>
 some (z0.1,())
def gbo_7463 (x0:List Int) (x1:Int) (x2:List (Int×Bool)) (x3:List Y2) (x4:List (Int×Bool×Bool×List (Int×Int))) (x5:List Y14) (x6 x7:List Int) (x8 x9 x10 x11 x12 x13:Int) (x14 x15:Bool) (x16 x17 x18 x19:Int):Option (List Int×Int×(List (Int×Bool)×List Y2×List (Int×Bool×Bool×List (Int×Int))×List Y14×Unit)×Y9×Int×Int×Unit) :=
 bif (x11 == x1) then
  (idx x0 x10).bind fun v0 =>
  (idx x0 x11).bind fun v1 =>
  (gbn x2 x3 x4 x5 x6 x7 x9 (wrap .i64 (v0 - v1))).bind fun y0 =>
  some (x0,x1,(x2,x3,x4,x5,()),(x6,x7,()),(wrap .i64 (x8 - y0.1)),x9,())
 else
  some (x0,x1,(x2,x3,x4,x5,()),(x6,x7,()),x8,x9,())
def gbo_58r (x0:List Int) (x1:Int) (x2:List (Int×Bool)) (x3:List Y2) (x4:List (Int×Bool×Bool×List (Int×Int))) (x5:List Y14) (x6 x7:List Int) (x8 x9:Int):Option ((List Int×Int×(List (Int×Bool)×List Y2×List (Int×Bool×Bool×List (Int×Int))×List Y14×Unit)×Y9×Int×Int×Unit) ⊕ (Int×Unit)) :=
 bif decide (x9 < (x3.length:Int)) then
  (idx x3 x9).bind fun v2 =>
  bif v2.2.2.2.2.2.1 then
   some (.inl (x0,x1,(x2,x3,x4,x5,()),(x6,x7,()),x8,(wrap .i64 (x9 + 1)),()))
  else
   bif (v2.1 == x1) then
    (idx x0 v2.1).bind fun v3 =>
    (idx x0 v2.2.1).bind fun v4 =>
    (gbm x2 x3 x4 x5 x6 x7 x9 (wrap .i64 (v3 - v4))).bind fun y1 =>
    (gbo_7463 x0 x1 x2 x3 x4 x5 x6 x7 (wrap .i64 (x8 + y1.1)) x9 v2.1 v2.2.1 v2.2.2.1 v2.2.2.2.1 v2.2.2.2.2.1 v2.2.2.2.2.2.1 v2.2.2.2.2.2.2.1 v2.2.2.2.2.2.2.2.1 v2.2.2.2.2.2.2.2.2.1 v2.2.2.2.2.2.2.2.2.2).bind fun z0 =>
    some (.inl (z0.1,z0.2.1,z0.2.2.1,z0.2.2.2.1,z0.2.2.2.2.1,(wrap .i64 (z0.2.2.2.2.2.1 + 1)),()))
   else
    (gbo_7463 x0 x1 x2 x3 x4 x5 x6 x7 x8 x9 v2.1 v2.2.1 v2.2.2.1 v2.2.2.2.1 v2.2.2.2.2.1 v2.2.2.2.2.2.1 v2.2.2.2.2.2.2.1 v2.2.2.2.2.2.2.2.1 v2.2.2.2.2.2.2.2.2.1 v2.2.2.2.2.2.2.2.2.2).bind fun z1 =>
    some (.inl (z1.1,z1.2.1,z1.2.2.1,z1.2.2.2.1,z1.2.2.2.2.1,(wrap .i64 (z1.2.2.2.2.2.1 + 1)),()))
 else
  some (.inr (x8,()))
def gbo_58F (x:(List Int×Int×(List (Int×Bool)×List Y2×List (Int×Bool×Bool×List (Int×Int))×List Y14×Unit)×Y9×Int×Int×Unit)):=gbo_58r x.1 x.2.1 x.2.2.1.1 x.2.2.1.2.1 x.2.2.1.2.2.1 x.2.2.1.2.2.2.1 x.2.2.2.1.1 x.2.2.2.1.2.1 x.2.2.2.2.1 x.2.2.2.2.2.1
def gbo_58 (x0:List Int) (x1:Int) (x2:List (Int×Bool)) (x3:List Y2) (x4:List (Int×Bool×Bool×List (Int×Int))) (x5:List Y14) (x6 x7:List Int) (x8 x9:Int):=loopL gbo_58F (x0,x1,(x2,x3,x4,x5,()),(x6,x7,()),x8,x9,())
def gbo (x0:List (Int×Bool)) (x1:List Y2) (x2:List (Int×Bool×Bool×List (Int×Int))) (x3:List Y14) (x4 x5 x6:List Int) (x7:Int):Option (Int×Unit) :=
 (gbo_58 x6 x7 x0 x1 x2 x3 x4 x5 0 0).bind fun z2 =>
 some (z2.1,())
def gbp_124r (x0:Int) (x1:List (Int×Bool)) (x2:List Y2) (x3:List (Int×Bool×Bool×List (Int×Int))) (x4:List Y14) (x5 x6 x7:List Int) (x8 x9:Int):Option ((Int×(List (Int×Bool)×List Y2×List (Int×Bool×Bool×List (Int×Int))×List Y14×Unit)×Y9×List Int×Int×Int×Unit) ⊕ ((Int×(List (Int×Bool)×List Y2×List (Int×Bool×Bool×List (Int×Int))×List Y14×Unit)×Y9×List Int×Int×Unit) ⊕ Y15)) :=
 bif (decide (0≤x0) && decide (x0 < (x7.length:Int))) then
 (x7[x0.toNat]?).bind fun v0 =>
 (gbo x1 x2 x3 x4 x5 x6 ((x7).set x0.toNat (bif decide (70368744177664 < (wrap .i64 (x8 + x9))) then 70368744177664 else (wrap .i64 (x8 + x9)))) x0).bind fun y0 =>
 bif decide (y0.1 ≥ 0) then
  some (.inr (.inl (x0,(x1,x2,x3,x4,()),(x5,x6,()),(x7).set x0.toNat (bif decide (70368744177664 < (wrap .i64 (x8 + x9))) then 70368744177664 else (wrap .i64 (x8 + x9))),x8,())))
 else
  bif (decide (0≤x0) && decide (x0 < (((x7).set x0.toNat (bif decide (70368744177664 < (wrap .i64 (x8 + x9))) then 70368744177664 else (wrap .i64 (x8 + x9)))).length:Int))) then
  (((x7).set x0.toNat (bif decide (70368744177664 < (wrap .i64 (x8 + x9))) then 70368744177664 else (wrap .i64 (x8 + x9))))[x0.toNat]?).bind fun v1 =>
  bif (v1 == 70368744177664) then
   some (.inr (.inr (0,false,())))
  else
   bif (decide (0≤x0) && decide (x0 < (((x7).set x0.toNat (bif decide (70368744177664 < (wrap .i64 (x8 + x9))) then 70368744177664 else (wrap .i64 (x8 + x9)))).length:Int))) then
   (((x7).set x0.toNat (bif decide (70368744177664 < (wrap .i64 (x8 + x9))) then 70368744177664 else (wrap .i64 (x8 + x9))))[x0.toNat]?).bind fun v2 =>
   some (.inl (x0,(x1,x2,x3,x4,()),(x5,x6,()),(x7).set x0.toNat (bif decide (70368744177664 < (wrap .i64 (x8 + x9))) then 70368744177664 else (wrap .i64 (x8 + x9))),v2,(wrap .i64 (x9 * 2)),()))
   else none
  else none
 else none
def gbp_124F (x:(Int×(List (Int×Bool)×List Y2×List (Int×Bool×Bool×List (Int×Int))×List Y14×Unit)×Y9×List Int×Int×Int×Unit)):=gbp_124r x.1 x.2.1.1 x.2.1.2.1 x.2.1.2.2.1 x.2.1.2.2.2.1 x.2.2.1.1 x.2.2.1.2.1 x.2.2.2.1 x.2.2.2.2.1 x.2.2.2.2.2.1
def gbp_124 (x0:Int) (x1:List (Int×Bool)) (x2:List Y2) (x3:List (Int×Bool×Bool×List (Int×Int))) (x4:List Y14) (x5 x6 x7:List Int) (x8 x9:Int):=loopL gbp_124F (x0,(x1,x2,x3,x4,()),(x5,x6,()),x7,x8,x9,())
def gbp_508r (x0:Int) (x1:List (Int×Bool)) (x2:List Y2) (x3:List (Int×Bool×Bool×List (Int×Int))) (x4:List Y14) (x5 x6 x7:List Int) (x8 x9:Int):Option ((Int×(List (Int×Bool)×List Y2×List (Int×Bool×Bool×List (Int×Int))×List Y14×Unit)×Y9×List Int×Int×Int×Unit) ⊕ (Int×Unit)) :=
 bif decide ((wrap .i64 (x8 + 1)) < x9) then
  bif (decide (0≤x0) && decide (x0 < (x7.length:Int))) then
  (x7[x0.toNat]?).bind fun v3 =>
  (gbo x1 x2 x3 x4 x5 x6 ((x7).set x0.toNat (wrap .i64 (x8 + (wrap .i64 (Int.tdiv (wrap .i64 (x9 - x8)) 2))))) x0).bind fun y1 =>
  bif decide (y1.1 ≥ 0) then
   bif (decide (0≤x0) && decide (x0 < (((x7).set x0.toNat (wrap .i64 (x8 + (wrap .i64 (Int.tdiv (wrap .i64 (x9 - x8)) 2))))).length:Int))) then
   (((x7).set x0.toNat (wrap .i64 (x8 + (wrap .i64 (Int.tdiv (wrap .i64 (x9 - x8)) 2)))))[x0.toNat]?).bind fun v4 =>
   some (.inl (x0,(x1,x2,x3,x4,()),(x5,x6,()),(x7).set x0.toNat (wrap .i64 (x8 + (wrap .i64 (Int.tdiv (wrap .i64 (x9 - x8)) 2)))),x8,v4,()))
   else none
  else
   bif (decide (0≤x0) && decide (x0 < (((x7).set x0.toNat (wrap .i64 (x8 + (wrap .i64 (Int.tdiv (wrap .i64 (x9 - x8)) 2))))).length:Int))) then
   (((x7).set x0.toNat (wrap .i64 (x8 + (wrap .i64 (Int.tdiv (wrap .i64 (x9 - x8)) 2)))))[x0.toNat]?).bind fun v5 =>
   some (.inl (x0,(x1,x2,x3,x4,()),(x5,x6,()),(x7).set x0.toNat (wrap .i64 (x8 + (wrap .i64 (Int.tdiv (wrap .i64 (x9 - x8)) 2)))),v5,x9,()))
   else none
  else none
 else
  some (.inr (x9,()))
def gbp_508F (x:(Int×(List (Int×Bool)×List Y2×List (Int×Bool×Bool×List (Int×Int))×List Y14×Unit)×Y9×List Int×Int×Int×Unit)):=gbp_508r x.1 x.2.1.1 x.2.1.2.1 x.2.1.2.2.1 x.2.1.2.2.2.1 x.2.2.1.1 x.2.2.1.2.1 x.2.2.2.1 x.2.2.2.2.1 x.2.2.2.2.2.1
def gbp_508 (x0:Int) (x1:List (Int×Bool)) (x2:List Y2) (x3:List (Int×Bool×Bool×List (Int×Int))) (x4:List Y14) (x5 x6 x7:List Int) (x8 x9:Int):=loopL gbp_508F (x0,(x1,x2,x3,x4,()),(x5,x6,()),x7,x8,x9,())
def gbp (x0:List (Int×Bool)) (x1:List Y2) (x2:List (Int×Bool×Bool×List (Int×Int))) (x3:List Y14) (x4 x5 x6:List Int) (x7:Int):Option (Y15×Unit) :=
 bif decide ((0 + x6.length) * 8≤140737488355328) then
 (gbo x0 x1 x2 x3 x4 x5 x6 x7).bind fun y2 =>
 bif decide (y2.1 ≥ 0) then
  bif (decide (0≤x7) && decide (x7 < (x6.length:Int))) then
  (x6[x7.toNat]?).bind fun v6 =>
  some ((v6,true,()),())
  else none
 else
  bif (decide (0≤x7) && decide (x7 < (x6.length:Int))) then
  (x6[x7.toNat]?).bind fun v7 =>
  (gbp_124 x7 x0 x1 x2 x3 x4 x5 x6 v7 1).bind fun z0 =>
  sumElim z0 (fun z1 =>
   bif (decide (0≤z1.1) && decide (z1.1 < (z1.2.2.2.1.length:Int))) then
   (z1.2.2.2.1[z1.1.toNat]?).bind fun v8 =>
   (gbp_508 z1.1 z1.2.1.1 z1.2.1.2.1 z1.2.1.2.2.1 z1.2.1.2.2.2.1 z1.2.2.1.1 z1.2.2.1.2.1 z1.2.2.2.1 z1.2.2.2.2.1 v8).bind fun z2 =>
   some ((z2.1,true,()),())
   else none)
   (fun z3 =>
   some (z3,()))
  else none
 else none
def gbq_7463 (x0:List Int) (x1:Int) (x2:List (Int×Bool)) (x3:List Y2) (x4:List (Int×Bool×Bool×List (Int×Int))) (x5:List Y14) (x6 x7:List Int) (x8 x9 x10 x11 x12 x13:Int) (x14 x15:Bool) (x16 x17 x18 x19:Int):Option (List Int×Int×(List (Int×Bool)×List Y2×List (Int×Bool×Bool×List (Int×Int))×List Y14×Unit)×Y9×Int×Int×Unit) :=
 bif (x11 == x1) then
  (idx x0 x10).bind fun v0 =>
  (idx x0 x11).bind fun v1 =>
  (gbm x2 x3 x4 x5 x6 x7 x9 (wrap .i64 (v0 - v1))).bind fun y0 =>
  some (x0,x1,(x2,x3,x4,x5,()),(x6,x7,()),(wrap .i64 (x8 - y0.1)),x9,())
 else
  some (x0,x1,(x2,x3,x4,x5,()),(x6,x7,()),x8,x9,())
def gbq_58r (x0:List Int) (x1:Int) (x2:List (Int×Bool)) (x3:List Y2) (x4:List (Int×Bool×Bool×List (Int×Int))) (x5:List Y14) (x6 x7:List Int) (x8 x9:Int):Option ((List Int×Int×(List (Int×Bool)×List Y2×List (Int×Bool×Bool×List (Int×Int))×List Y14×Unit)×Y9×Int×Int×Unit) ⊕ (Int×Unit)) :=
 bif decide (x9 < (x3.length:Int)) then
  (idx x3 x9).bind fun v2 =>
  bif v2.2.2.2.2.2.1 then
   some (.inl (x0,x1,(x2,x3,x4,x5,()),(x6,x7,()),x8,(wrap .i64 (x9 + 1)),()))
  else
   bif (v2.1 == x1) then
    (idx x0 v2.1).bind fun v3 =>
    (idx x0 v2.2.1).bind fun v4 =>
    (gbn x2 x3 x4 x5 x6 x7 x9 (wrap .i64 (v3 - v4))).bind fun y1 =>
    (gbq_7463 x0 x1 x2 x3 x4 x5 x6 x7 (wrap .i64 (x8 + y1.1)) x9 v2.1 v2.2.1 v2.2.2.1 v2.2.2.2.1 v2.2.2.2.2.1 v2.2.2.2.2.2.1 v2.2.2.2.2.2.2.1 v2.2.2.2.2.2.2.2.1 v2.2.2.2.2.2.2.2.2.1 v2.2.2.2.2.2.2.2.2.2).bind fun z0 =>
    some (.inl (z0.1,z0.2.1,z0.2.2.1,z0.2.2.2.1,z0.2.2.2.2.1,(wrap .i64 (z0.2.2.2.2.2.1 + 1)),()))
   else
    (gbq_7463 x0 x1 x2 x3 x4 x5 x6 x7 x8 x9 v2.1 v2.2.1 v2.2.2.1 v2.2.2.2.1 v2.2.2.2.2.1 v2.2.2.2.2.2.1 v2.2.2.2.2.2.2.1 v2.2.2.2.2.2.2.2.1 v2.2.2.2.2.2.2.2.2.1 v2.2.2.2.2.2.2.2.2.2).bind fun z1 =>
    some (.inl (z1.1,z1.2.1,z1.2.2.1,z1.2.2.2.1,z1.2.2.2.2.1,(wrap .i64 (z1.2.2.2.2.2.1 + 1)),()))
 else
  some (.inr (x8,()))
def gbq_58F (x:(List Int×Int×(List (Int×Bool)×List Y2×List (Int×Bool×Bool×List (Int×Int))×List Y14×Unit)×Y9×Int×Int×Unit)):=gbq_58r x.1 x.2.1 x.2.2.1.1 x.2.2.1.2.1 x.2.2.1.2.2.1 x.2.2.1.2.2.2.1 x.2.2.2.1.1 x.2.2.2.1.2.1 x.2.2.2.2.1 x.2.2.2.2.2.1
def gbq_58 (x0:List Int) (x1:Int) (x2:List (Int×Bool)) (x3:List Y2) (x4:List (Int×Bool×Bool×List (Int×Int))) (x5:List Y14) (x6 x7:List Int) (x8 x9:Int):=loopL gbq_58F (x0,x1,(x2,x3,x4,x5,()),(x6,x7,()),x8,x9,())
def gbq (x0:List (Int×Bool)) (x1:List Y2) (x2:List (Int×Bool×Bool×List (Int×Int))) (x3:List Y14) (x4 x5 x6:List Int) (x7:Int):Option (Int×Unit) :=
 (gbq_58 x6 x7 x0 x1 x2 x3 x4 x5 0 0).bind fun z2 =>
 some (z2.1,())
def gbr_124r (x0:Int) (x1:List (Int×Bool)) (x2:List Y2) (x3:List (Int×Bool×Bool×List (Int×Int))) (x4:List Y14) (x5 x6 x7:List Int) (x8 x9:Int):Option ((Int×(List (Int×Bool)×List Y2×List (Int×Bool×Bool×List (Int×Int))×List Y14×Unit)×Y9×List Int×Int×Int×Unit) ⊕ ((Int×(List (Int×Bool)×List Y2×List (Int×Bool×Bool×List (Int×Int))×List Y14×Unit)×Y9×List Int×Int×Unit) ⊕ Y15)) :=
 bif (decide (0≤x0) && decide (x0 < (x7.length:Int))) then
 (x7[x0.toNat]?).bind fun v0 =>
 (gbq x1 x2 x3 x4 x5 x6 ((x7).set x0.toNat (bif decide ((-70368744177664) > (wrap .i64 (x8 - x9))) then (-70368744177664) else (wrap .i64 (x8 - x9)))) x0).bind fun y0 =>
 bif decide (y0.1≤0) then
  some (.inr (.inl (x0,(x1,x2,x3,x4,()),(x5,x6,()),(x7).set x0.toNat (bif decide ((-70368744177664) > (wrap .i64 (x8 - x9))) then (-70368744177664) else (wrap .i64 (x8 - x9))),x8,())))
 else
  bif (decide (0≤x0) && decide (x0 < (((x7).set x0.toNat (bif decide ((-70368744177664) > (wrap .i64 (x8 - x9))) then (-70368744177664) else (wrap .i64 (x8 - x9)))).length:Int))) then
  (((x7).set x0.toNat (bif decide ((-70368744177664) > (wrap .i64 (x8 - x9))) then (-70368744177664) else (wrap .i64 (x8 - x9))))[x0.toNat]?).bind fun v1 =>
  bif (v1 == (-70368744177664)) then
   some (.inr (.inr (0,false,())))
  else
   bif (decide (0≤x0) && decide (x0 < (((x7).set x0.toNat (bif decide ((-70368744177664) > (wrap .i64 (x8 - x9))) then (-70368744177664) else (wrap .i64 (x8 - x9)))).length:Int))) then
   (((x7).set x0.toNat (bif decide ((-70368744177664) > (wrap .i64 (x8 - x9))) then (-70368744177664) else (wrap .i64 (x8 - x9))))[x0.toNat]?).bind fun v2 =>
   some (.inl (x0,(x1,x2,x3,x4,()),(x5,x6,()),(x7).set x0.toNat (bif decide ((-70368744177664) > (wrap .i64 (x8 - x9))) then (-70368744177664) else (wrap .i64 (x8 - x9))),v2,(wrap .i64 (x9 * 2)),()))
   else none
  else none
 else none
def gbr_124F (x:(Int×(List (Int×Bool)×List Y2×List (Int×Bool×Bool×List (Int×Int))×List Y14×Unit)×Y9×List Int×Int×Int×Unit)):=gbr_124r x.1 x.2.1.1 x.2.1.2.1 x.2.1.2.2.1 x.2.1.2.2.2.1 x.2.2.1.1 x.2.2.1.2.1 x.2.2.2.1 x.2.2.2.2.1 x.2.2.2.2.2.1
def gbr_124 (x0:Int) (x1:List (Int×Bool)) (x2:List Y2) (x3:List (Int×Bool×Bool×List (Int×Int))) (x4:List Y14) (x5 x6 x7:List Int) (x8 x9:Int):=loopL gbr_124F (x0,(x1,x2,x3,x4,()),(x5,x6,()),x7,x8,x9,())
def gbr_508r (x0:Int) (x1:List (Int×Bool)) (x2:List Y2) (x3:List (Int×Bool×Bool×List (Int×Int))) (x4:List Y14) (x5 x6 x7:List Int) (x8 x9:Int):Option ((Int×(List (Int×Bool)×List Y2×List (Int×Bool×Bool×List (Int×Int))×List Y14×Unit)×Y9×List Int×Int×Int×Unit) ⊕ (Int×Unit)) :=
 bif decide ((wrap .i64 (x9 + 1)) < x8) then
  bif (decide (0≤x0) && decide (x0 < (x7.length:Int))) then
  (x7[x0.toNat]?).bind fun v3 =>
  (gbq x1 x2 x3 x4 x5 x6 ((x7).set x0.toNat (wrap .i64 (x9 + (wrap .i64 (Int.tdiv (wrap .i64 (x8 - x9)) 2))))) x0).bind fun y1 =>
  bif decide (y1.1≤0) then
   bif (decide (0≤x0) && decide (x0 < (((x7).set x0.toNat (wrap .i64 (x9 + (wrap .i64 (Int.tdiv (wrap .i64 (x8 - x9)) 2))))).length:Int))) then
   (((x7).set x0.toNat (wrap .i64 (x9 + (wrap .i64 (Int.tdiv (wrap .i64 (x8 - x9)) 2)))))[x0.toNat]?).bind fun v4 =>
   some (.inl (x0,(x1,x2,x3,x4,()),(x5,x6,()),(x7).set x0.toNat (wrap .i64 (x9 + (wrap .i64 (Int.tdiv (wrap .i64 (x8 - x9)) 2)))),x8,v4,()))
   else none
  else
   bif (decide (0≤x0) && decide (x0 < (((x7).set x0.toNat (wrap .i64 (x9 + (wrap .i64 (Int.tdiv (wrap .i64 (x8 - x9)) 2))))).length:Int))) then
   (((x7).set x0.toNat (wrap .i64 (x9 + (wrap .i64 (Int.tdiv (wrap .i64 (x8 - x9)) 2)))))[x0.toNat]?).bind fun v5 =>
   some (.inl (x0,(x1,x2,x3,x4,()),(x5,x6,()),(x7).set x0.toNat (wrap .i64 (x9 + (wrap .i64 (Int.tdiv (wrap .i64 (x8 - x9)) 2)))),v5,x9,()))
   else none
  else none
 else
  some (.inr (x9,()))
def gbr_508F (x:(Int×(List (Int×Bool)×List Y2×List (Int×Bool×Bool×List (Int×Int))×List Y14×Unit)×Y9×List Int×Int×Int×Unit)):=gbr_508r x.1 x.2.1.1 x.2.1.2.1 x.2.1.2.2.1 x.2.1.2.2.2.1 x.2.2.1.1 x.2.2.1.2.1 x.2.2.2.1 x.2.2.2.2.1 x.2.2.2.2.2.1
def gbr_508 (x0:Int) (x1:List (Int×Bool)) (x2:List Y2) (x3:List (Int×Bool×Bool×List (Int×Int))) (x4:List Y14) (x5 x6 x7:List Int) (x8 x9:Int):=loopL gbr_508F (x0,(x1,x2,x3,x4,()),(x5,x6,()),x7,x8,x9,())
def gbr (x0:List (Int×Bool)) (x1:List Y2) (x2:List (Int×Bool×Bool×List (Int×Int))) (x3:List Y14) (x4 x5 x6:List Int) (x7:Int):Option (Y15×Unit) :=
 bif decide ((0 + x6.length) * 8≤140737488355328) then
 (gbq x0 x1 x2 x3 x4 x5 x6 x7).bind fun y2 =>
 bif decide (y2.1≤0) then
  bif (decide (0≤x7) && decide (x7 < (x6.length:Int))) then
  (x6[x7.toNat]?).bind fun v6 =>
  some ((v6,true,()),())
  else none
 else
  bif (decide (0≤x7) && decide (x7 < (x6.length:Int))) then
  (x6[x7.toNat]?).bind fun v7 =>
  (gbr_124 x7 x0 x1 x2 x3 x4 x5 x6 v7 1).bind fun z0 =>
  sumElim z0 (fun z1 =>
   bif (decide (0≤z1.1) && decide (z1.1 < (z1.2.2.2.1.length:Int))) then
   (z1.2.2.2.1[z1.1.toNat]?).bind fun v8 =>
   (gbr_508 z1.1 z1.2.1.1 z1.2.1.2.1 z1.2.1.2.2.1 z1.2.1.2.2.2.1 z1.2.2.1.1 z1.2.2.1.2.1 z1.2.2.2.1 z1.2.2.2.2.1 v8).bind fun z2 =>
   some ((z2.1,true,()),())
   else none)
   (fun z3 =>
   some (z3,()))
  else none
 else none
def gbs_8201511 (x0:Bool) (x1:List (Int×Bool)) (x2:List Y2) (x3:List (Int×Bool×Bool×List (Int×Int))) (x4:List Y14) (x5 x6 x7:List Int) (x8:List Bool) (x9:Int) (x10:Bool) (x11 x12:Int) (x13:Bool):Option (Y12 ⊕ (Bool×(List (Int×Bool)×List Y2×List (Int×Bool×Bool×List (Int×Int))×List Y14×Unit)×Y9×List Int×List Bool×Int×Bool×Int×Unit)) :=
 bif (!x13) then
  some (.inl (([]:List Int),2,()))
 else
  (bif x10 then some true else (bif (decide (0≤x11) && decide (x11 < (x7.length:Int))) then ((x7[x11.toNat]?).bind fun v0 => some (x12 != v0)) else none)).bind fun b0 =>
  bif (decide (0≤x11) && decide (x11 < (x7.length:Int))) then
  (x7[x11.toNat]?).bind fun v1 =>
  some (.inr (x0,(x1,x2,x3,x4,()),(x5,x6,()),(x7).set x11.toNat x12,x8,x9,b0,x11,()))
  else none
def gbs_64074r (x0:Bool) (x1:List (Int×Bool)) (x2:List Y2) (x3:List (Int×Bool×Bool×List (Int×Int))) (x4:List Y14) (x5 x6 x7:List Int) (x8:List Bool) (x9:Int) (x10:Bool) (x11:Int):Option ((Bool×(List (Int×Bool)×List Y2×List (Int×Bool×Bool×List (Int×Int))×List Y14×Unit)×Y9×List Int×List Bool×Int×Bool×Int×Unit) ⊕ (Y12 ⊕ (Bool×(List (Int×Bool)×List Y2×List (Int×Bool×Bool×List (Int×Int))×List Y14×Unit)×Y9×List Int×List Bool×Int×Bool×Unit))) :=
 bif decide (x11 < (x7.length:Int)) then
  bif (decide (0≤x11) && decide (x11 < (x8.length:Int))) then
  (x8[x11.toNat]?).bind fun v2 =>
  bif v2 then
   some (.inl (x0,(x1,x2,x3,x4,()),(x5,x6,()),x7,x8,x9,x10,(wrap .i64 (x11 + 1)),()))
  else
   bif x0 then
    (gbp x1 x2 x3 x4 x5 x6 x7 x11).bind fun y0 =>
    (gbs_8201511 x0 x1 x2 x3 x4 x5 x6 x7 x8 x9 x10 x11 y0.1.1 y0.1.2.1).bind fun z0 =>
    sumElim z0 (fun z1 =>
     some (.inr (.inl z1)))
     (fun z2 =>
     some (.inl (z2.1,z2.2.1,z2.2.2.1,z2.2.2.2.1,z2.2.2.2.2.1,z2.2.2.2.2.2.1,z2.2.2.2.2.2.2.1,(wrap .i64 (z2.2.2.2.2.2.2.2.1 + 1)),())))
   else
    (gbr x1 x2 x3 x4 x5 x6 x7 x11).bind fun y1 =>
    (gbs_8201511 x0 x1 x2 x3 x4 x5 x6 x7 x8 x9 x10 x11 y1.1.1 y1.1.2.1).bind fun z3 =>
    sumElim z3 (fun z4 =>
     some (.inr (.inl z4)))
     (fun z5 =>
     some (.inl (z5.1,z5.2.1,z5.2.2.1,z5.2.2.2.1,z5.2.2.2.2.1,z5.2.2.2.2.2.1,z5.2.2.2.2.2.2.1,(wrap .i64 (z5.2.2.2.2.2.2.2.1 + 1)),())))
  else none
 else
  some (.inr (.inr (x0,(x1,x2,x3,x4,()),(x5,x6,()),x7,x8,x9,x10,())))
def gbs_64074F (x:(Bool×(List (Int×Bool)×List Y2×List (Int×Bool×Bool×List (Int×Int))×List Y14×Unit)×Y9×List Int×List Bool×Int×Bool×Int×Unit)):=gbs_64074r x.1 x.2.1.1 x.2.1.2.1 x.2.1.2.2.1 x.2.1.2.2.2.1 x.2.2.1.1 x.2.2.1.2.1 x.2.2.2.1 x.2.2.2.2.1 x.2.2.2.2.2.1 x.2.2.2.2.2.2.1 x.2.2.2.2.2.2.2.1
def gbs_64074 (x0:Bool) (x1:List (Int×Bool)) (x2:List Y2) (x3:List (Int×Bool×Bool×List (Int×Int))) (x4:List Y14) (x5 x6 x7:List Int) (x8:List Bool) (x9:Int) (x10:Bool) (x11:Int):=loopL gbs_64074F (x0,(x1,x2,x3,x4,()),(x5,x6,()),x7,x8,x9,x10,x11,())
def gbs_250r (x0:Bool) (x1:List (Int×Bool)) (x2:List Y2) (x3:List (Int×Bool×Bool×List (Int×Int))) (x4:List Y14) (x5 x6 x7:List Int) (x8:List Bool) (x9:Int):Option ((Bool×(List (Int×Bool)×List Y2×List (Int×Bool×Bool×List (Int×Int))×List Y14×Unit)×Y9×List Int×List Bool×Int×Unit) ⊕ (Y12 ⊕ (Unit×Int×List Int×Unit) ⊕ (Unit))) :=
 bif decide (x9 < 200) then
  (gbs_64074 x0 x1 x2 x3 x4 x5 x6 x7 x8 x9 false 0).bind fun z6 =>
  sumElim z6 (fun z7 =>
   some (.inr (.inl z7)))
   (fun z8 =>
   bif (!z8.2.2.2.2.2.2.1) then
    some (.inr (.inr (.inl ((),0,z8.2.2.2.1,()))))
   else
    some (.inl (z8.1,z8.2.1,z8.2.2.1,z8.2.2.2.1,z8.2.2.2.2.1,(wrap .i64 (z8.2.2.2.2.2.1 + 1)),())))
 else
  some (.inr (.inr (.inr ())))
def gbs_250F (x:(Bool×(List (Int×Bool)×List Y2×List (Int×Bool×Bool×List (Int×Int))×List Y14×Unit)×Y9×List Int×List Bool×Int×Unit)):=gbs_250r x.1 x.2.1.1 x.2.1.2.1 x.2.1.2.2.1 x.2.1.2.2.2.1 x.2.2.1.1 x.2.2.1.2.1 x.2.2.2.1 x.2.2.2.2.1 x.2.2.2.2.2.1
def gbs_250 (x0:Bool) (x1:List (Int×Bool)) (x2:List Y2) (x3:List (Int×Bool×Bool×List (Int×Int))) (x4:List Y14) (x5 x6 x7:List Int) (x8:List Bool) (x9:Int):=loopL gbs_250F (x0,(x1,x2,x3,x4,()),(x5,x6,()),x7,x8,x9,())
def gbs (x0:List (Int×Bool)) (x1:List Y2) (x2:List (Int×Bool×Bool×List (Int×Int))) (x3:List Y14) (x4 x5 x6:List Int) (x7:Bool):Option (Y12×Unit) :=
 (gbl x0 x1 x2 x3 x4 x5 x6).bind fun y2 =>
 bif (y2.1 != 0) then
  some ((([]:List Int),y2.1,()),())
 else
  bif decide ((0 + x6.length) * 8≤140737488355328) then
  (gbk x0 x1).bind fun y3 =>
  (gbs_250 x7 x0 x1 x2 x3 x4 x5 x6 y3.1 0).bind fun z9 =>
  sumElim z9 (fun z10 =>
   some (z10,()))
   (fun z9' =>
   sumElim z9' (fun z11 =>
    some ((z11.2.2.1,z11.2.1,()),()))
    (fun z12 =>
    some ((([]:List Int),2,()),())))
  else none
def gbt (x0:List (Int×Bool)) (x1:List Y2) (x2:List (Int×Bool×Bool×List (Int×Int))) (x3:List Y14) (x4 x5 x6:List Int):Option (Y12×Unit) :=
 (gbs x0 x1 x2 x3 x4 x5 x6 false).bind fun y0 =>
 some (y0.1,())
def gbu (x0:List (Int×Bool)) (x1:List Y2) (x2:List (Int×Bool×Bool×List (Int×Int))) (x3:List Y14) (x4 x5 x6:List Int):Option (Y12×Unit) :=
 (gbs x0 x1 x2 x3 x4 x5 x6 true).bind fun y0 =>
 some (y0.1,())
def gbv (x0:List (Int×Bool)) (x1:List Y2) (x2:List (Int×Bool×Bool×List (Int×Int))) (x3:List Y14) (x4 x5:List Int):Option ((Y9×Int×Unit)×Unit) :=
 bif (decide (0≤(x0.length:Int)) && (decide ((x0.length:Int)≤(x0.length:Int)) && decide ((x0.length:Int) * ((8:Nat):Int)≤((140737488355328:Nat):Int)))) then
 (gbt x0 x1 x2 x3 x4 x5 (List.replicate (x0.length:Int).toNat (0:Int))).bind fun y0 =>
 bif (y0.1.2.1 != 0) then
  some (((([]:List Int),([]:List Int),()),y0.1.2.1,()),())
 else
  (gbu x0 x1 x2 x3 x4 x5 y0.1.1).bind fun y1 =>
  bif (y1.1.2.1 != 0) then
   some (((([]:List Int),([]:List Int),()),y1.1.2.1,()),())
  else
   (gbt x0 x1 x2 x3 x4 x5 y1.1.1).bind fun y2 =>
   bif (y2.1.2.1 != 0) then
    some (((([]:List Int),([]:List Int),()),y2.1.2.1,()),())
   else
    some (((y2.1.1,y1.1.1,()),0,()),())
 else none
def gbw_2042r (x0:List (Int×Bool)) (x1:List Y2) (x2:List (Int×Bool×Bool×List (Int×Int))) (x3:List Y14) (x4 x5 x6 x7:List Int) (x8:Int) (x9:List Bool) (x10:Int):Option (((List (Int×Bool)×List Y2×List (Int×Bool×Bool×List (Int×Int))×List Y14×Unit)×Y9×Y9×Int×List Bool×Int×Unit) ⊕ ((Int×Unit) ⊕ (Unit))) :=
 bif decide (x10 < x8) then
  bif (decide (0≤x10) && decide (x10 < (x9.length:Int))) then
  (x9[x10.toNat]?).bind fun v0 =>
  bif v0 then
   (idx x6 x10).bind fun v1 =>
   (bif (v1 != 0) then some true else ((idx x7 x10).bind fun v2 => some (v2 != 0))).bind fun b0 =>
   bif b0 then
    some (.inr (.inl (12,())))
   else
    some (.inl ((x0,x1,x2,x3,()),(x4,x5,()),(x6,x7,()),x8,x9,(wrap .i64 (x10 + 1)),()))
  else
   (gbo x0 x1 x2 x3 x4 x5 x7 x10).bind fun y0 =>
   (bif decide (y0.1 < 0) then some true else ((gbq x0 x1 x2 x3 x4 x5 x6 x10).bind fun y1 => some (decide (y1.1 > 0)))).bind fun b1 =>
   bif b1 then
    some (.inr (.inl (12,())))
   else
    some (.inl ((x0,x1,x2,x3,()),(x4,x5,()),(x6,x7,()),x8,x9,(wrap .i64 (x10 + 1)),()))
  else none
 else
  some (.inr (.inr ()))
def gbw_2042F (x:((List (Int×Bool)×List Y2×List (Int×Bool×Bool×List (Int×Int))×List Y14×Unit)×Y9×Y9×Int×List Bool×Int×Unit)):=gbw_2042r x.1.1 x.1.2.1 x.1.2.2.1 x.1.2.2.2.1 x.2.1.1 x.2.1.2.1 x.2.2.1.1 x.2.2.1.2.1 x.2.2.2.1 x.2.2.2.2.1 x.2.2.2.2.2.1
def gbw_2042 (x0:List (Int×Bool)) (x1:List Y2) (x2:List (Int×Bool×Bool×List (Int×Int))) (x3:List Y14) (x4 x5 x6 x7:List Int) (x8:Int) (x9:List Bool) (x10:Int):=loopL gbw_2042F ((x0,x1,x2,x3,()),(x4,x5,()),(x6,x7,()),x8,x9,x10,())
def gbw (x0:List (Int×Bool)) (x1:List Y2) (x2:List (Int×Bool×Bool×List (Int×Int))) (x3:List Y14) (x4 x5 x6 x7:List Int):Option (Int×Unit) :=
 (gbb x0 x1 x2 x3).bind fun y2 =>
 bif (y2.1 != 0) then
  some (y2.1,())
 else
  (gbc x0 x1 x2 x3 x4 x5).bind fun y3 =>
  bif (!y3.1) then
   some (21,())
  else
   (bif ((x6.length:Int) != (x0.length:Int)) then some true else some ((x7.length:Int) != (x0.length:Int))).bind fun b2 =>
   bif b2 then
    some (11,())
   else
    (gbh x6).bind fun y4 =>
    (bif (!y4.1) then some true else ((gbh x7).bind fun y5 => some (!y5.1))).bind fun b3 =>
    bif b3 then
     some (1,())
    else
     (gbk x0 x1).bind fun y6 =>
     (gbw_2042 x0 x1 x2 x3 x4 x5 x6 x7 (x0.length:Int) y6.1 0).bind fun z0 =>
     sumElim z0 (fun z1 =>
      some (z1.1,()))
      (fun z2 =>
      some (0,()))
def gbx:Option (Y16×Unit) :=
 some (((-1125899906842624),1125899906842624,()),())
def gby_32039 (x0:List (Int×Bool)) (x1:List Y2) (x2:List (Int×Bool×Bool×List (Int×Int))) (x3:List Y14) (x4 x5 x6 x7:List Int) (x8:List Bool) (x9:List (Int×Int)) (x10 x11 x12:Int):Option ((List (Int×Bool)×List Y2×List (Int×Bool×Bool×List (Int×Int))×List Y14×Unit)×Y9×Y9×List Bool×List (Int×Int)×Int×Unit) :=
 bif decide ((x9.length + 1) * 16≤140737488355328) then
 some ((x0,x1,x2,x3,()),(x4,x5,()),(x6,x7,()),x8,(x9 ++ ([(x11,x12)]:List (Int×Int))),x10,())
 else none
def gby_250r (x0:List (Int×Bool)) (x1:List Y2) (x2:List (Int×Bool×Bool×List (Int×Int))) (x3:List Y14) (x4 x5 x6 x7:List Int) (x8:List Bool) (x9:List (Int×Int)) (x10:Int):Option (((List (Int×Bool)×List Y2×List (Int×Bool×Bool×List (Int×Int))×List Y14×Unit)×Y9×Y9×List Bool×List (Int×Int)×Int×Unit) ⊕ (List (Int×Int)×Unit)) :=
 bif decide (x10 < (x1.length:Int)) then
  (idx x1 x10).bind fun v0 =>
  bif (!v0.2.2.2.2.2.1) then
   (gbx).bind fun y0 =>
   bif (decide (0≤v0.1) && decide (v0.1 < (x8.length:Int))) then
   (x8[v0.1.toNat]?).bind fun v1 =>
   bif v1 then
    (idx x6 v0.1).bind fun v2 =>
    (idx x7 v0.2.1).bind fun v3 =>
    (gbm x0 x1 x2 x3 x4 x5 x10 (wrap .i64 (v2 - v3))).bind fun y1 =>
    (idx x7 v0.1).bind fun v4 =>
    (idx x6 v0.2.1).bind fun v5 =>
    (gbn x0 x1 x2 x3 x4 x5 x10 (wrap .i64 (v4 - v5))).bind fun y2 =>
    (gby_32039 x0 x1 x2 x3 x4 x5 x6 x7 x8 x9 x10 y1.1 y2.1).bind fun z0 =>
    some (.inl (z0.1,z0.2.1,z0.2.2.1,z0.2.2.2.1,z0.2.2.2.2.1,(wrap .i64 (z0.2.2.2.2.2.1 + 1)),()))
   else
    (gby_32039 x0 x1 x2 x3 x4 x5 x6 x7 x8 x9 x10 y0.1.1 y0.1.2.1).bind fun z1 =>
    some (.inl (z1.1,z1.2.1,z1.2.2.1,z1.2.2.2.1,z1.2.2.2.2.1,(wrap .i64 (z1.2.2.2.2.2.1 + 1)),()))
   else none
  else
   (gby_32039 x0 x1 x2 x3 x4 x5 x6 x7 x8 x9 x10 0 0).bind fun z2 =>
   some (.inl (z2.1,z2.2.1,z2.2.2.1,z2.2.2.2.1,z2.2.2.2.2.1,(wrap .i64 (z2.2.2.2.2.2.1 + 1)),()))
 else
  some (.inr (x9,()))
def gby_250F (x:((List (Int×Bool)×List Y2×List (Int×Bool×Bool×List (Int×Int))×List Y14×Unit)×Y9×Y9×List Bool×List (Int×Int)×Int×Unit)):=gby_250r x.1.1 x.1.2.1 x.1.2.2.1 x.1.2.2.2.1 x.2.1.1 x.2.1.2.1 x.2.2.1.1 x.2.2.1.2.1 x.2.2.2.1 x.2.2.2.2.1 x.2.2.2.2.2.1
def gby_250 (x0:List (Int×Bool)) (x1:List Y2) (x2:List (Int×Bool×Bool×List (Int×Int))) (x3:List Y14) (x4 x5 x6 x7:List Int) (x8:List Bool) (x9:List (Int×Int)) (x10:Int):=loopL gby_250F ((x0,x1,x2,x3,()),(x4,x5,()),(x6,x7,()),x8,x9,x10,())
def gby (x0:List (Int×Bool)) (x1:List Y2) (x2:List (Int×Bool×Bool×List (Int×Int))) (x3:List Y14) (x4 x5 x6 x7:List Int):Option (List (Int×Int)×Unit) :=
 (gbw x0 x1 x2 x3 x4 x5 x6 x7).bind fun y3 =>
 bif (y3.1 != 0) then
  some (([]:List (Int×Int)),())
 else
  (gbj x0 x1).bind fun y4 =>
  (gby_250 x0 x1 x2 x3 x4 x5 x6 x7 y4.1 ([]:List (Int×Int)) 0).bind fun z3 =>
  some (z3.1,())
def gbz_65171 (x0:List (Int×Bool)) (x1:List Y2) (x2:List (Int×Bool×Bool×List (Int×Int))) (x3:List Y14) (x4:List (Int×Int)) (x5 x6 x7:Int):Option ((List (Int×Bool)×List Y2×List (Int×Bool×Bool×List (Int×Int))×List Y14×Unit)×List (Int×Int)×Int×Unit) :=
 bif decide ((x4.length + 1) * 16≤140737488355328) then
 some ((x0,x1,x2,x3,()),(x4 ++ ([(x6,x7)]:List (Int×Int))),x5,())
 else none
def gbz_1018r (x0:List (Int×Bool)) (x1:List Y2) (x2:List (Int×Bool×Bool×List (Int×Int))) (x3:List Y14) (x4:List (Int×Int)) (x5:Int):Option (((List (Int×Bool)×List Y2×List (Int×Bool×Bool×List (Int×Int))×List Y14×Unit)×List (Int×Int)×Int×Unit) ⊕ (List (Int×Int)×Unit)) :=
 bif decide (x5 < (x1.length:Int)) then
  (idx x1 x5).bind fun v0 =>
  bif (!v0.2.2.2.2.2.1) then
   (gbx).bind fun y0 =>
   (gbz_65171 x0 x1 x2 x3 x4 x5 y0.1.1 y0.1.2.1).bind fun z0 =>
   some (.inl (z0.1,z0.2.1,(wrap .i64 (z0.2.2.1 + 1)),()))
  else
   (gbz_65171 x0 x1 x2 x3 x4 x5 0 0).bind fun z1 =>
   some (.inl (z1.1,z1.2.1,(wrap .i64 (z1.2.2.1 + 1)),()))
 else
  some (.inr (x4,()))
def gbz_1018F (x:((List (Int×Bool)×List Y2×List (Int×Bool×Bool×List (Int×Int))×List Y14×Unit)×List (Int×Int)×Int×Unit)):=gbz_1018r x.1.1 x.1.2.1 x.1.2.2.1 x.1.2.2.2.1 x.2.1 x.2.2.1
def gbz_1018 (x0:List (Int×Bool)) (x1:List Y2) (x2:List (Int×Bool×Bool×List (Int×Int))) (x3:List Y14) (x4:List (Int×Int)) (x5:Int):=loopL gbz_1018F ((x0,x1,x2,x3,()),x4,x5,())
def gbz (x0:List (Int×Bool)) (x1:List Y2) (x2:List (Int×Bool×Bool×List (Int×Int))) (x3:List Y14) (x4 x5:List Int):Option ((List (Int×Int)×Int×Unit)×Unit) :=
 (gbb x0 x1 x2 x3).bind fun y1 =>
 bif (y1.1 != 0) then
  some ((([]:List (Int×Int)),y1.1,()),())
 else
  (gbc x0 x1 x2 x3 x4 x5).bind fun y2 =>
  bif (!y2.1) then
   some ((([]:List (Int×Int)),21,()),())
  else
   (gbv x0 x1 x2 x3 x4 x5).bind fun y3 =>
   bif (y3.1.2.1 == 0) then
    (gby x0 x1 x2 x3 x4 x5 y3.1.1.1 y3.1.1.2.1).bind fun y4 =>
    some ((y4.1,0,()),())
   else
    (gbz_1018 x0 x1 x2 x3 ([]:List (Int×Int)) 0).bind fun z2 =>
    some ((z2.1,0,()),())
def gca:Option (Y10×Unit) :=
 some ((true,(-1),0,()),())
def gcb_7475 (x0:List Int) (x1:Int) (x2:List Y18) (x3:Bool) (x4 x5 x6 x7:Int):Option Y22 :=
 bif decide ((x2.length + 1) * 24≤140737488355328) then
 some ((x0,x1,()),(x2 ++ ([(x3,x4,x5)]:List Y18)),x6,x7,())
 else none
def gcb_58r (x0:List Int) (x1:Int) (x2:List Y18) (x3 x4:Int):Option (Y22 ⊕ (Y12×List Y18×Unit)) :=
 bif decide (x4 < x3) then
  (gca).bind fun y0 =>
  (gab x0 x1 3).bind fun y1 =>
  bif (y1.1 == 1) then
   (gcb_7475 y1.2.1.1 y1.2.1.2.1 x2 false y0.1.2.1 y0.1.2.2.1 x3 x4).bind fun z0 =>
   some (.inl (z0.1,z0.2.1,z0.2.2.1,(wrap .i64 (z0.2.2.2.1 + 1)),()))
  else
   bif (y1.1 == 2) then
    (gab y1.2.1.1 y1.2.1.2.1 9).bind fun y2 =>
    (gcb_7475 y2.2.1.1 y2.2.1.2.1 x2 y0.1.1 y2.1 9 x3 x4).bind fun z1 =>
    some (.inl (z1.1,z1.2.1,z1.2.2.1,(wrap .i64 (z1.2.2.2.1 + 1)),()))
   else
    (gcb_7475 y1.2.1.1 y1.2.1.2.1 x2 y0.1.1 y0.1.2.1 y0.1.2.2.1 x3 x4).bind fun z2 =>
    some (.inl (z2.1,z2.2.1,z2.2.2.1,(wrap .i64 (z2.2.2.2.1 + 1)),()))
 else
  some (.inr ((x0,x1,()),x2,()))
def gcb_58F (x:Y22):=gcb_58r x.1.1 x.1.2.1 x.2.1 x.2.2.1 x.2.2.2.1
def gcb_58 (x0:List Int) (x1:Int) (x2:List Y18) (x3 x4:Int):=loopL gcb_58F ((x0,x1,()),x2,x3,x4,())
def gcb (x0:List Int) (x1:Int) (x2:List (Int×Bool)) (x3:List Y2) (x4:List (Int×Bool×Bool×List (Int×Int))) (x5:List Y14) (x6:List Y4) (x7:List Y6) (x8:List Y26) (x9:List Int):Option (List Y18×(Y12×Unit)) :=
 (gcb_58 x0 x1 ([]:List Y18) (x7.length:Int) 0).bind fun z3 =>
 some (z3.2.1,(z3.1,()))
def gcc (x0 x1 x2 x3:Int):Option (Bool×Unit) :=
 (bif decide (x2≤x0) then some (decide (x0≤x1)) else some false).bind fun b0 =>
 (bif b0 then some (decide (x1≤x3)) else some false).bind fun b1 =>
 some (b1,())
def gcd_58r (x0:List (Int×Bool)) (x1:List Y2) (x2:List (Int×Bool)) (x3 x4:Int):Option (((List (Int×Bool)×List Y2×Unit)×List (Int×Bool)×Int×Int×Unit) ⊕ ((Int×Unit) ⊕ ((List (Int×Bool)×List Y2×Unit)×Unit))) :=
 bif decide (x4 < x3) then
  (idx x2 x4).bind fun v0 =>
  (bif decide (v0.1 < (-10000)) then some true else some (decide (v0.1 > 10000))).bind fun b0 =>
  bif b0 then
   some (.inr (.inl (1,())))
  else
   some (.inl ((x0,x1,()),x2,x3,(wrap .i64 (x4 + 1)),()))
 else
  some (.inr (.inr ((x0,x1,()),())))
def gcd_58F (x:((List (Int×Bool)×List Y2×Unit)×List (Int×Bool)×Int×Int×Unit)):=gcd_58r x.1.1 x.1.2.1 x.2.1 x.2.2.1 x.2.2.2.1
def gcd_58 (x0:List (Int×Bool)) (x1:List Y2) (x2:List (Int×Bool)) (x3 x4:Int):=loopL gcd_58F ((x0,x1,()),x2,x3,x4,())
def gcd_250r (x0:Int) (x1:List Y2) (x2 x3:Int):Option ((Int×List Y2×Int×Int×Unit) ⊕ ((Int×Unit) ⊕ (Unit))) :=
 bif decide (x3 < x2) then
  (idx x1 x3).bind fun v1 =>
  (bif decide (v1.1 < 0) then some true else some (decide (v1.1 ≥ x0))).bind fun b1 =>
  (bif b1 then some true else some (decide (v1.2.1 < 0))).bind fun b2 =>
  (bif b2 then some true else some (decide (v1.2.1 ≥ x0))).bind fun b3 =>
  (bif b3 then some true else some (v1.1 == v1.2.1)).bind fun b4 =>
  bif b4 then
   some (.inr (.inl (4,())))
  else
   (bif decide (v1.2.2.1 < 1) then some true else some (decide (v1.2.2.1 > 100000))).bind fun b5 =>
   (bif b5 then some true else some (decide (v1.2.2.2.1 < 1))).bind fun b6 =>
   (bif b6 then some true else some (decide (v1.2.2.2.1 > 1000))).bind fun b7 =>
   bif b7 then
    some (.inr (.inl (1,())))
   else
    (gcc v1.2.2.2.2.2.2.1 v1.2.2.2.2.2.2.2.1 1 262144).bind fun y0 =>
    (bif (!y0.1) then some true else ((gcc v1.2.2.2.2.2.2.2.2.1 v1.2.2.2.2.2.2.2.2.2 (-2199023255552) 2199023255552).bind fun y1 => some (!y1.1))).bind fun b8 =>
    bif b8 then
     some (.inr (.inl (1,())))
    else
     some (.inl (x0,x1,x2,(wrap .i64 (x3 + 1)),()))
 else
  some (.inr (.inr ()))
def gcd_250F (x:(Int×List Y2×Int×Int×Unit)):=gcd_250r x.1 x.2.1 x.2.2.1 x.2.2.2.1
def gcd_250 (x0:Int) (x1:List Y2) (x2 x3:Int):=loopL gcd_250F (x0,x1,x2,x3,())
def gcd (x0:List (Int×Bool)) (x1:List Y2):Option (Int×Unit) :=
 (bif decide ((x0.length:Int) > 64) then some true else some (decide ((x1.length:Int) > 128))).bind fun b9 =>
 bif b9 then
  some (2,())
 else
  (gcd_58 x0 x1 x0 (x0.length:Int) 0).bind fun z0 =>
  sumElim z0 (fun z1 =>
   some (z1.1,()))
   (fun z2 =>
   (gcd_250 (z2.1.1.length:Int) z2.1.2.1 (z2.1.2.1.length:Int) 0).bind fun z3 =>
   sumElim z3 (fun z4 =>
    some (z4.1,()))
    (fun z5 =>
    some (0,())))
def gce_122r (x0:Int) (x1 x2:Bool) (x3 x4:List (Int×Int)) (x5 x6:Int):Option (((Int×Bool×Bool×List (Int×Int)×Unit)×List (Int×Int)×Int×Int×Unit) ⊕ ((Int×Unit) ⊕ (Unit))) :=
 bif decide (x6 < x5) then
  (idx x4 x6).bind fun v0 =>
  (bif decide (v0.1 < (-1048576)) then some true else some (decide (v0.1 > 1048576))).bind fun b0 =>
  (bif b0 then some true else some (decide (v0.2 < 0))).bind fun b1 =>
  (bif b1 then some true else some (decide (v0.2 > 2199023255552))).bind fun b2 =>
  bif b2 then
   some (.inr (.inl (1,())))
  else
   (bif decide (x6 > 0) then ((idx x3 (wrap .i64 (x6 - 1))).bind fun v1 => ((bif decide (v0.1≤v1.1) then some true else ((idx x3 (wrap .i64 (x6 - 1))).bind fun v2 => some (decide (v0.2 > v2.2)))).bind fun b3 => some b3)) else some false).bind fun b4 =>
   bif b4 then
    some (.inr (.inl (14,())))
   else
    some (.inl ((x0,x1,x2,x3,()),x4,x5,(wrap .i64 (x6 + 1)),()))
 else
  some (.inr (.inr ()))
def gce_122F (x:((Int×Bool×Bool×List (Int×Int)×Unit)×List (Int×Int)×Int×Int×Unit)):=gce_122r x.1.1 x.1.2.1 x.1.2.2.1 x.1.2.2.2.1 x.2.1 x.2.2.1 x.2.2.2.1
def gce_122 (x0:Int) (x1 x2:Bool) (x3 x4:List (Int×Int)) (x5 x6:Int):=loopL gce_122F ((x0,x1,x2,x3,()),x4,x5,x6,())
def gce (x0:Int) (x1 x2:Bool) (x3:List (Int×Int)):Option (Int×Unit) :=
 bif decide (x0 < 0) then
  some (4,())
 else
  (bif decide ((x3.length:Int) < 1) then some true else some (decide ((x3.length:Int) > 8))).bind fun b5 =>
  bif b5 then
   some (2,())
  else
   (gce_122 x0 x1 x2 x3 x3 (x3.length:Int) 0).bind fun z0 =>
   sumElim z0 (fun z1 =>
    some (z1.1,()))
    (fun z2 =>
    some (0,()))
def gcf_239226r (x0:List Y14) (x1 x2 x3:Int) (x4:List Int) (x5:Bool) (x6:List Y14) (x7 x8:Int) (x9:List Int) (x10 x11:Int):Option ((List Y14×Int×Y8×Bool×List Y14×Int×Int×List Int×Int×Int×Unit) ⊕ ((Int×Unit) ⊕ (List Y14×Int×Y8×Bool×List Y14×Int×Int×Unit))) :=
 bif decide (x11 < x10) then
  (idx x9 x11).bind fun v0 =>
  (bif decide (v0 < 0) then some true else some (decide (v0 > 262144))).bind fun b0 =>
  bif b0 then
   some (.inr (.inl (1,())))
  else
   (bif x5 then ((bif (x11 == 0) then some true else ((idx x4 (wrap .i64 (x11 - 1))).bind fun v1 => some (decide (v0 < v1)))).bind fun b1 => some b1) else some false).bind fun b2 =>
   some (.inl (x0,x1,(x2,x3,x4,()),b2,x6,x7,x8,x9,x10,(wrap .i64 (x11 + 1)),()))
 else
  some (.inr (.inr (x0,x1,(x2,x3,x4,()),x5,x6,x7,x8,())))
def gcf_239226F (x:(List Y14×Int×Y8×Bool×List Y14×Int×Int×List Int×Int×Int×Unit)):=gcf_239226r x.1 x.2.1 x.2.2.1.1 x.2.2.1.2.1 x.2.2.1.2.2.1 x.2.2.2.1 x.2.2.2.2.1 x.2.2.2.2.2.1 x.2.2.2.2.2.2.1 x.2.2.2.2.2.2.2.1 x.2.2.2.2.2.2.2.2.1 x.2.2.2.2.2.2.2.2.2.1
def gcf_239226 (x0:List Y14) (x1 x2 x3:Int) (x4:List Int) (x5:Bool) (x6:List Y14) (x7 x8:Int) (x9:List Int) (x10 x11:Int):=loopL gcf_239226F (x0,x1,(x2,x3,x4,()),x5,x6,x7,x8,x9,x10,x11,())
def gcf_58r (x0 x1:List Y14) (x2 x3:Int):Option ((List Y14×List Y14×Int×Int×Unit) ⊕ ((Int×Unit) ⊕ (Unit))) :=
 bif decide (x3 < x2) then
  (idx x1 x3).bind fun v2 =>
  bif decide (v2.1 < 0) then
   some (.inr (.inl (4,())))
  else
   (bif decide ((v2.2.2.length:Int) < 2) then some true else some (decide ((v2.2.2.length:Int) > 6))).bind fun b3 =>
   bif b3 then
    some (.inr (.inl (2,())))
   else
    (gcf_239226 x0 x3 v2.1 v2.2.1 v2.2.2 true x1 x2 x3 v2.2.2 (v2.2.2.length:Int) 0).bind fun z0 =>
    sumElim z0 (fun z1 =>
     some (.inr (.inl z1)))
     (fun z2 =>
     bif (!z2.2.2.2.1) then
      some (.inr (.inl (15,())))
     else
      (bif (z2.2.2.1.2.1 != (-1)) then ((bif decide (z2.2.2.1.2.1 < 0) then some true else some (decide (z2.2.2.1.2.1 ≥ (z2.1.length:Int)))).bind fun b4 => ((bif b4 then some true else some (z2.2.2.1.2.1 == z2.2.1)).bind fun b5 => ((bif b5 then some true else ((idx z2.1 z2.2.2.1.2.1).bind fun v3 => some (v3.2.1 != z2.2.1))).bind fun b6 => some b6))) else some false).bind fun b7 =>
      bif b7 then
       some (.inr (.inl (15,())))
      else
       some (.inl (z2.1,z2.2.2.2.2.1,z2.2.2.2.2.2.1,(wrap .i64 (z2.2.2.2.2.2.2.1 + 1)),())))
 else
  some (.inr (.inr ()))
def gcf_58F (x:(List Y14×List Y14×Int×Int×Unit)):=gcf_58r x.1 x.2.1 x.2.2.1 x.2.2.2.1
def gcf_58 (x0 x1:List Y14) (x2 x3:Int):=loopL gcf_58F (x0,x1,x2,x3,())
def gcf (x0:List Y14):Option (Int×Unit) :=
 bif decide ((x0.length:Int) > 16) then
  some (2,())
 else
  (gcf_58 x0 x0 (x0.length:Int) 0).bind fun z3 =>
  sumElim z3 (fun z4 =>
   some (z4.1,()))
   (fun z5 =>
   some (0,()))
def gcg_122r (x0:List (Int×Bool)) (x1:List Y2) (x2:List (Int×Bool×Bool×List (Int×Int))) (x3:List Y14) (x4:List (Int×Bool×Bool×List (Int×Int))) (x5 x6:Int):Option (((List (Int×Bool)×List Y2×List (Int×Bool×Bool×List (Int×Int))×List Y14×Unit)×List (Int×Bool×Bool×List (Int×Int))×Int×Int×Unit) ⊕ ((Int×Unit) ⊕ ((List (Int×Bool)×List Y2×List (Int×Bool×Bool×List (Int×Int))×List Y14×Unit)×Unit))) :=
 bif decide (x6 < x5) then
  (idx x4 x6).bind fun v0 =>
  (gce v0.1 v0.2.1 v0.2.2.1 v0.2.2.2).bind fun y0 =>
  bif (y0.1 != 0) then
   some (.inr (.inl (y0.1,())))
  else
   bif decide (v0.1 ≥ (x1.length:Int)) then
    some (.inr (.inl (4,())))
   else
    some (.inl ((x0,x1,x2,x3,()),x4,x5,(wrap .i64 (x6 + 1)),()))
 else
  some (.inr (.inr ((x0,x1,x2,x3,()),())))
def gcg_122F (x:((List (Int×Bool)×List Y2×List (Int×Bool×Bool×List (Int×Int))×List Y14×Unit)×List (Int×Bool×Bool×List (Int×Int))×Int×Int×Unit)):=gcg_122r x.1.1 x.1.2.1 x.1.2.2.1 x.1.2.2.2.1 x.2.1 x.2.2.1 x.2.2.2.1
def gcg_122 (x0:List (Int×Bool)) (x1:List Y2) (x2:List (Int×Bool×Bool×List (Int×Int))) (x3:List Y14) (x4:List (Int×Bool×Bool×List (Int×Int))) (x5 x6:Int):=loopL gcg_122F ((x0,x1,x2,x3,()),x4,x5,x6,())
def gcg_506r (x0:List (Int×Bool)) (x1:List Y2) (x2:List (Int×Bool×Bool×List (Int×Int))) (x3 x4:List Y14) (x5 x6:Int):Option (((List (Int×Bool)×List Y2×List (Int×Bool×Bool×List (Int×Int))×List Y14×Unit)×List Y14×Int×Int×Unit) ⊕ ((Int×Unit) ⊕ (Unit))) :=
 bif decide (x6 < x5) then
  (idx x4 x6).bind fun v1 =>
  bif decide (v1.1 ≥ (x1.length:Int)) then
   some (.inr (.inl (4,())))
  else
   some (.inl ((x0,x1,x2,x3,()),x4,x5,(wrap .i64 (x6 + 1)),()))
 else
  some (.inr (.inr ()))
def gcg_506F (x:((List (Int×Bool)×List Y2×List (Int×Bool×Bool×List (Int×Int))×List Y14×Unit)×List Y14×Int×Int×Unit)):=gcg_506r x.1.1 x.1.2.1 x.1.2.2.1 x.1.2.2.2.1 x.2.1 x.2.2.1 x.2.2.2.1
def gcg_506 (x0:List (Int×Bool)) (x1:List Y2) (x2:List (Int×Bool×Bool×List (Int×Int))) (x3 x4:List Y14) (x5 x6:Int):=loopL gcg_506F ((x0,x1,x2,x3,()),x4,x5,x6,())
def gcg (x0:List (Int×Bool)) (x1:List Y2) (x2:List (Int×Bool×Bool×List (Int×Int))) (x3:List Y14):Option (Int×Unit) :=
 (gcd x0 x1).bind fun y1 =>
 bif (y1.1 != 0) then
  some (y1.1,())
 else
  bif decide ((x2.length:Int) > 8) then
   some (2,())
  else
   (gcg_122 x0 x1 x2 x3 x2 (x2.length:Int) 0).bind fun z0 =>
   sumElim z0 (fun z1 =>
    some (z1.1,()))
    (fun z2 =>
    (gcf z2.1.2.2.2.1).bind fun y2 =>
    bif (y2.1 != 0) then
     some (y2.1,())
    else
     (gcg_506 z2.1.1 z2.1.2.1 z2.1.2.2.1 z2.1.2.2.2.1 z2.1.2.2.2.1 (z2.1.2.2.2.1.length:Int) 0).bind fun z3 =>
     sumElim z3 (fun z4 =>
      some (z4.1,()))
      (fun z5 =>
      some (0,())))
def gch_26r (x0 x1:Int) (x2:List Int) (x3 x4:Int):Option ((Int×Int×List Int×Int×Int×Unit) ⊕ ((Bool×Unit) ⊕ (Unit))) :=
 bif decide (x4 < x3) then
  (idx x2 x4).bind fun v0 =>
  (bif decide (v0 < x0) then some true else some (decide (v0 > x1))).bind fun b0 =>
  bif b0 then
   some (.inr (.inl (false,())))
  else
   some (.inl (x0,x1,x2,x3,(wrap .i64 (x4 + 1)),()))
 else
  some (.inr (.inr ()))
def gch_26F (x:(Int×Int×List Int×Int×Int×Unit)):=gch_26r x.1 x.2.1 x.2.2.1 x.2.2.2.1 x.2.2.2.2.1
def gch_26 (x0 x1:Int) (x2:List Int) (x3 x4:Int):=loopL gch_26F (x0,x1,x2,x3,x4,())
def gch (x0 x1:Int) (x2:List Int):Option (Bool×Unit) :=
 (gch_26 x0 x1 x2 (x2.length:Int) 0).bind fun z0 =>
 sumElim z0 (fun z1 =>
  some (z1.1,()))
  (fun z2 =>
  some (true,()))
def gci (x0 x1 x2 x3 x4 x5 x6 x7:Int):Option (Int×Unit) :=
 (gch 1 6 ([x1]:List Int)).bind fun y0 =>
 bif (!y0.1) then
  some (5,())
 else
  (gch 0 255 ([x0]:List Int)).bind fun y1 =>
  (bif (!y1.1) then some true else some (decide (x2 < 0))).bind fun b0 =>
  (bif b0 then some true else ((gch (-1000000) 1000000 ([x3,x4]:List Int)).bind fun y2 => some (!y2.1))).bind fun b1 =>
  bif b1 then
   some (1,())
  else
   (gch 0 1000000 ([x5,x6]:List Int)).bind fun y3 =>
   (bif (!y3.1) then some true else ((gch 1 1000000 ([x7]:List Int)).bind fun y4 => some (!y4.1))).bind fun b2 =>
   bif b2 then
    some (1,())
   else
    some (0,())
def gcj (x0 x1:Int):Option (Bool×Unit) :=
 (bif decide (x0 ≥ 0) then some (decide (x0 < x1)) else some false).bind fun b0 =>
 some (b0,())
def gck_108158r (x0:List (Int×Bool)) (x1:List Y2) (x2:List (Int×Bool×Bool×List (Int×Int))) (x3:List Y14) (x4:List Y4) (x5:List Y6) (x6:List Y26) (x7:List Int) (x8 x9 x10 x11 x12 x13 x14 x15:Int) (x16:List Y4) (x17 x18:Int) (x19:List Y4) (x20 x21:Int):Option (((List (Int×Bool)×List Y2×List (Int×Bool×Bool×List (Int×Int))×List Y14×List Y4×List Y6×List Y26×List Int×Unit)×Y3×List Y4×Int×Int×List Y4×Int×Int×Unit) ⊕ ((Int×Unit) ⊕ ((List (Int×Bool)×List Y2×List (Int×Bool×Bool×List (Int×Int))×List Y14×List Y4×List Y6×List Y26×List Int×Unit)×List Y4×Int×Int×Unit))) :=
 bif decide (x21 < x20) then
  (idx x19 x21).bind fun v0 =>
  bif (v0.1 == x8) then
   some (.inr (.inl (9,())))
  else
   some (.inl ((x0,x1,x2,x3,x4,x5,x6,x7,()),(x8,x9,x10,x11,x12,x13,x14,x15,()),x16,x17,x18,x19,x20,(wrap .i64 (x21 + 1)),()))
 else
  some (.inr (.inr ((x0,x1,x2,x3,x4,x5,x6,x7,()),x16,x17,x18,())))
def gck_108158F (x:((List (Int×Bool)×List Y2×List (Int×Bool×Bool×List (Int×Int))×List Y14×List Y4×List Y6×List Y26×List Int×Unit)×Y3×List Y4×Int×Int×List Y4×Int×Int×Unit)):=gck_108158r x.1.1 x.1.2.1 x.1.2.2.1 x.1.2.2.2.1 x.1.2.2.2.2.1 x.1.2.2.2.2.2.1 x.1.2.2.2.2.2.2.1 x.1.2.2.2.2.2.2.2.1 x.2.1.1 x.2.1.2.1 x.2.1.2.2.1 x.2.1.2.2.2.1 x.2.1.2.2.2.2.1 x.2.1.2.2.2.2.2.1 x.2.1.2.2.2.2.2.2.1 x.2.1.2.2.2.2.2.2.2.1 x.2.2.1 x.2.2.2.1 x.2.2.2.2.1 x.2.2.2.2.2.1 x.2.2.2.2.2.2.1 x.2.2.2.2.2.2.2.1
def gck_108158 (x0:List (Int×Bool)) (x1:List Y2) (x2:List (Int×Bool×Bool×List (Int×Int))) (x3:List Y14) (x4:List Y4) (x5:List Y6) (x6:List Y26) (x7:List Int) (x8 x9 x10 x11 x12 x13 x14 x15:Int) (x16:List Y4) (x17 x18:Int) (x19:List Y4) (x20 x21:Int):=loopL gck_108158F ((x0,x1,x2,x3,x4,x5,x6,x7,()),(x8,x9,x10,x11,x12,x13,x14,x15,()),x16,x17,x18,x19,x20,x21,())
def gck_13519 (x0:List (Int×Bool)) (x1:List Y2) (x2:List (Int×Bool×Bool×List (Int×Int))) (x3:List Y14) (x4:List Y4) (x5:List Y6) (x6:List Y26) (x7:List Int) (x8 x9 x10 x11 x12 x13 x14 x15 x16 x17:Int) (x18:List Y4) (x19 x20:Int):Option ((Int×Unit) ⊕ ((List (Int×Bool)×List Y2×List (Int×Bool×Bool×List (Int×Int))×List Y14×List Y4×List Y6×List Y26×List Int×Unit)×List Y4×Int×Int×Unit)) :=
 (gcj x11 x17).bind fun y0 =>
 bif (!y0.1) then
  some (.inl (9,()))
 else
  bif (decide (0≤x8) && decide (x8≤(x4.length:Int))) then
  (gck_108158 x0 x1 x2 x3 x4 x5 x6 x7 x9 x10 x11 x12 x13 x14 x15 x16 x18 x19 x20 ((x4).take x8.toNat) (((x4).take x8.toNat).length:Int) 0).bind fun z0 =>
  sumElim z0 (fun z1 =>
   some (.inl z1))
   (fun z2 =>
   some (.inr z2))
  else none
def gck_26r (x0:List (Int×Bool)) (x1:List Y2) (x2:List (Int×Bool×Bool×List (Int×Int))) (x3:List Y14) (x4:List Y4) (x5:List Y6) (x6:List Y26) (x7:List Int) (x8:List Y4) (x9 x10:Int):Option (((List (Int×Bool)×List Y2×List (Int×Bool×Bool×List (Int×Int))×List Y14×List Y4×List Y6×List Y26×List Int×Unit)×List Y4×Int×Int×Unit) ⊕ ((Int×Unit) ⊕ (Unit))) :=
 bif decide (x10 < x9) then
  (idx x8 x10).bind fun v1 =>
  (gci v1.1 v1.2.1 v1.2.2.1 v1.2.2.2.1 v1.2.2.2.2.1 v1.2.2.2.2.2.1 v1.2.2.2.2.2.2.1 v1.2.2.2.2.2.2.2).bind fun y1 =>
  bif (y1.1 != 0) then
   some (.inr (.inl (y1.1,())))
  else
   bif (v1.2.1 == 5) then
    (gck_13519 x0 x1 x2 x3 x4 x5 x6 x7 x10 v1.1 v1.2.1 v1.2.2.1 v1.2.2.2.1 v1.2.2.2.2.1 v1.2.2.2.2.2.1 v1.2.2.2.2.2.2.1 v1.2.2.2.2.2.2.2 (x2.length:Int) x8 x9 x10).bind fun z3 =>
    sumElim z3 (fun z4 =>
     some (.inr (.inl z4)))
     (fun z5 =>
     some (.inl (z5.1,z5.2.1,z5.2.2.1,(wrap .i64 (z5.2.2.2.1 + 1)),())))
   else
    bif (v1.2.1 == 6) then
     (gck_13519 x0 x1 x2 x3 x4 x5 x6 x7 x10 v1.1 v1.2.1 v1.2.2.1 v1.2.2.2.1 v1.2.2.2.2.1 v1.2.2.2.2.2.1 v1.2.2.2.2.2.2.1 v1.2.2.2.2.2.2.2 (x3.length:Int) x8 x9 x10).bind fun z6 =>
     sumElim z6 (fun z7 =>
      some (.inr (.inl z7)))
      (fun z8 =>
      some (.inl (z8.1,z8.2.1,z8.2.2.1,(wrap .i64 (z8.2.2.2.1 + 1)),())))
    else
     (gck_13519 x0 x1 x2 x3 x4 x5 x6 x7 x10 v1.1 v1.2.1 v1.2.2.1 v1.2.2.2.1 v1.2.2.2.2.1 v1.2.2.2.2.2.1 v1.2.2.2.2.2.2.1 v1.2.2.2.2.2.2.2 (x1.length:Int) x8 x9 x10).bind fun z9 =>
     sumElim z9 (fun z10 =>
      some (.inr (.inl z10)))
      (fun z11 =>
      some (.inl (z11.1,z11.2.1,z11.2.2.1,(wrap .i64 (z11.2.2.2.1 + 1)),())))
 else
  some (.inr (.inr ()))
def gck_26F (x:((List (Int×Bool)×List Y2×List (Int×Bool×Bool×List (Int×Int))×List Y14×List Y4×List Y6×List Y26×List Int×Unit)×List Y4×Int×Int×Unit)):=gck_26r x.1.1 x.1.2.1 x.1.2.2.1 x.1.2.2.2.1 x.1.2.2.2.2.1 x.1.2.2.2.2.2.1 x.1.2.2.2.2.2.2.1 x.1.2.2.2.2.2.2.2.1 x.2.1 x.2.2.1 x.2.2.2.1
def gck_26 (x0:List (Int×Bool)) (x1:List Y2) (x2:List (Int×Bool×Bool×List (Int×Int))) (x3:List Y14) (x4:List Y4) (x5:List Y6) (x6:List Y26) (x7:List Int) (x8:List Y4) (x9 x10:Int):=loopL gck_26F ((x0,x1,x2,x3,x4,x5,x6,x7,()),x8,x9,x10,())
def gck (x0:List (Int×Bool)) (x1:List Y2) (x2:List (Int×Bool×Bool×List (Int×Int))) (x3:List Y14) (x4:List Y4) (x5:List Y6) (x6:List Y26) (x7:List Int):Option (Int×Unit) :=
 (gck_26 x0 x1 x2 x3 x4 x5 x6 x7 x4 (x4.length:Int) 0).bind fun z12 =>
 sumElim z12 (fun z13 =>
  some (z13.1,()))
  (fun z14 =>
  some (0,()))
def gcl (x0 x1 x2:Int):Option (Int×Unit) :=
 (bif decide (x0 > 1000000) then some true else some (decide (x1 < 0))).bind fun b0 =>
 (bif b0 then some true else some (decide (x1 ≥ x0))).bind fun b1 =>
 (bif b1 then some true else some (decide (x2 < 0))).bind fun b2 =>
 (bif b2 then some true else some (decide (x2 > 100000))).bind fun b3 =>
 bif b3 then
  some (1,())
 else
  some (0,())
def gcm_53 (x0:List (Int×Bool)) (x1:List Y2) (x2:List (Int×Bool×Bool×List (Int×Int))) (x3:List Y14) (x4:List Y4) (x5:List Y6) (x6:List Y26) (x7:List Int) (x8 x9 x10 x11 x12 x13 x14:Int) (x15:Bool):Option ((Int×Unit) ⊕ (Y5×Unit)) :=
 bif x15 then
  (gcj x9 (x4.length:Int)).bind fun y0 =>
  bif (!y0.1) then
   some (.inl (9,()))
  else
   some (.inr ((x8,x9,x10,x11,x12,x13,()),()))
 else
  bif (x14 == 3) then
   (gcj x9 (x4.length:Int)).bind fun y1 =>
   (bif (!y1.1) then some true else ((idx x4 x9).bind fun v0 => some (v0.2.1 != 5))).bind fun b0 =>
   bif b0 then
    some (.inl (9,()))
   else
    some (.inr ((x8,x9,x10,x11,x12,x13,()),()))
  else
   bif (x14 == 5) then
    (gcj x9 (x1.length:Int)).bind fun y2 =>
    bif (!y2.1) then
     some (.inl (4,()))
    else
     some (.inr ((x8,x9,x10,x11,x12,x13,()),()))
   else
    some (.inl (5,()))
def gcm_7 (x0 x1 x2 x3 x4 x5:Int):Option (Int×Unit) :=
 (bif decide (x2 < 0) then some true else some (decide (x2 > 1099511627776))).bind fun b1 =>
 bif b1 then
  some (1,())
 else
  bif (x0 == 1) then
   (gcl x3 x4 x5).bind fun y3 =>
   some (y3.1,())
  else
   some (0,())
def gcm (x0:List (Int×Bool)) (x1:List Y2) (x2:List (Int×Bool×Bool×List (Int×Int))) (x3:List Y14) (x4:List Y4) (x5:List Y6) (x6:List Y26) (x7:List Int) (x8 x9 x10 x11 x12 x13:Int):Option (Int×Unit) :=
 bif (x8 == 1) then
  (gcm_53 x0 x1 x2 x3 x4 x5 x6 x7 x8 x9 x10 x11 x12 x13 x8 (x8 == 1)).bind fun z0 =>
  sumElim z0 (fun z1 =>
   some (z1.1,()))
   (fun z2 =>
   (gcm_7 z2.1.1 z2.1.2.1 z2.1.2.2.1 z2.1.2.2.2.1 z2.1.2.2.2.2.1 z2.1.2.2.2.2.2.1).bind fun z3 =>
   some (z3.1,()))
 else
  bif (x8 == 2) then
   (gcm_53 x0 x1 x2 x3 x4 x5 x6 x7 x8 x9 x10 x11 x12 x13 x8 (x8 == 2)).bind fun z4 =>
   sumElim z4 (fun z5 =>
    some (z5.1,()))
    (fun z6 =>
    (gcm_7 z6.1.1 z6.1.2.1 z6.1.2.2.1 z6.1.2.2.2.1 z6.1.2.2.2.2.1 z6.1.2.2.2.2.2.1).bind fun z7 =>
    some (z7.1,()))
  else
   (gcm_53 x0 x1 x2 x3 x4 x5 x6 x7 x8 x9 x10 x11 x12 x13 x8 (x8 == 4)).bind fun z8 =>
   sumElim z8 (fun z9 =>
    some (z9.1,()))
    (fun z10 =>
    (gcm_7 z10.1.1 z10.1.2.1 z10.1.2.2.1 z10.1.2.2.2.1 z10.1.2.2.2.2.1 z10.1.2.2.2.2.2.1).bind fun z11 =>
    some (z11.1,()))
def gcn_3935 (rec:Y29→Option (Y11×Unit)) (x0:List Y13) (x1 x2 x3 x4 x5:Int) (x6:Bool):Option (Y11 ⊕ (Unit)) :=
 bif x6 then
  (rec (x0,(wrap .i64 (x1 - 1)),())).bind fun y0 =>
  (bif (!y0.1.2.2.1) then some true else some (x3 != 0)).bind fun b0 =>
  (bif b0 then some true else some (x5 != (wrap .i64 (x1 - 1)))).bind fun b1 =>
  (bif b1 then some true else some (x4 != (wrap .i64 (y0.1.1 - 1)))).bind fun b2 =>
  bif b2 then
   some (.inl (0,0,false,()))
  else
   (rec (x0,(wrap .i64 (y0.1.1 - 1)),())).bind fun y1 =>
   some (.inl (y1.1.1,(wrap .i64 ((bif decide (y0.1.2.1 > y1.1.2.1) then y0.1.2.1 else y1.1.2.1) + 1)),y1.1.2.2.1,()))
 else
  some (.inr ())
def gcnb (rec:Y29→Option (Y11×Unit)) (x0:List Y13) (x1:Int):Option (Y11×Unit) :=
 bif decide (x1 < 0) then
  some ((0,0,false,()),())
 else
  (idx x0 x1).bind fun v0 =>
  bif (v0.1 == 1) then
   (bif (v0.2.2.1 == 0) then some (v0.2.2.2 == 0) else some false).bind fun b3 =>
   (bif b3 then some (decide (v0.2.1 ≥ 0)) else some false).bind fun b4 =>
   (bif b4 then some (decide (v0.2.1 < 64)) else some false).bind fun b5 =>
   some ((x1,1,b5,()),())
  else
   bif (v0.1 == 2) then
    (rec (x0,(wrap .i64 (x1 - 1)),())).bind fun y2 =>
    (bif y2.1.2.2.1 then some (v0.2.1 == 0) else some false).bind fun b6 =>
    (bif b6 then some (v0.2.2.2 == 0) else some false).bind fun b7 =>
    (bif b7 then some (v0.2.2.1 == (wrap .i64 (x1 - 1))) else some false).bind fun b8 =>
    some ((y2.1.1,(wrap .i64 (y2.1.2.1 + 1)),b8,()),())
   else
    bif (v0.1 == 3) then
     (gcn_3935 rec x0 x1 v0.1 v0.2.1 v0.2.2.1 v0.2.2.2 (v0.1 == 3)).bind fun z0 =>
     sumElim z0 (fun z1 =>
      some (z1,()))
      (fun z2 =>
      some ((0,0,false,()),()))
    else
     (gcn_3935 rec x0 x1 v0.1 v0.2.1 v0.2.2.1 v0.2.2.2 (v0.1 == 4)).bind fun z3 =>
     sumElim z3 (fun z4 =>
      some (z4,()))
      (fun z5 =>
      some ((0,0,false,()),()))
def gcni:Nat→Y29→Option (Y11×Unit)
 | 0 => fun _ => none
 | n + 1 => fun x => gcnb (gcni n) x.1 x.2.1
def gcn (x0:List Y13) (x1:Int):Option (Y11×Unit):=gcni 1000000 (x0,x1,())
def gco (x0:List Y13):Option (Bool×Unit) :=
 (bif decide ((x0.length:Int) < 1) then some true else some (decide ((x0.length:Int) > 64))).bind fun b0 =>
 bif b0 then
  some (false,())
 else
  (gcn x0 (wrap .i64 ((x0.length:Int) - 1))).bind fun y0 =>
  (bif y0.1.2.2.1 then some (y0.1.1 == 0) else some false).bind fun b1 =>
  (bif b1 then some (decide (y0.1.2.1≤16)) else some false).bind fun b2 =>
  some (b2,())
def gcp_58r (x0:Int) (x1:List Y13) (x2 x3:Int):Option ((Int×List Y13×Int×Int×Unit) ⊕ ((Int×Unit) ⊕ (Unit))) :=
 bif decide (x3 < x2) then
  (idx x1 x3).bind fun v0 =>
  (bif (v0.1 == 1) then some (decide (v0.2.1 ≥ x0)) else some false).bind fun b0 =>
  bif b0 then
   some (.inr (.inl (1,())))
  else
   some (.inl (x0,x1,x2,(wrap .i64 (x3 + 1)),()))
 else
  some (.inr (.inr ()))
def gcp_58F (x:(Int×List Y13×Int×Int×Unit)):=gcp_58r x.1 x.2.1 x.2.2.1 x.2.2.2.1
def gcp_58 (x0:Int) (x1:List Y13) (x2 x3:Int):=loopL gcp_58F (x0,x1,x2,x3,())
def gcp (x0:List Y13) (x1:Int):Option (Int×Unit) :=
 (gco x0).bind fun y0 =>
 bif (!y0.1) then
  some (18,())
 else
  (gcp_58 x1 x0 (x0.length:Int) 0).bind fun z0 =>
  sumElim z0 (fun z1 =>
   some (z1.1,()))
   (fun z2 =>
   some (0,()))
def gcq_122r (x0:List (Int×Bool)) (x1:List Y2) (x2:List (Int×Bool×Bool×List (Int×Int))) (x3:List Y14) (x4:List Y4) (x5:List Y6) (x6:List Y26) (x7:List Int) (x8:List Y13) (x9:Int) (x10:List Int) (x11:Int) (x12:List Int) (x13 x14:Int):Option (((List (Int×Bool)×List Y2×List (Int×Bool×Bool×List (Int×Int))×List Y14×List Y4×List Y6×List Y26×List Int×Unit)×Y21×List Int×Int×Int×Unit) ⊕ ((Int×Unit) ⊕ (Unit))) :=
 bif decide (x14 < x13) then
  (idx x12 x14).bind fun v0 =>
  (gcj v0 (x1.length:Int)).bind fun y0 =>
  (bif (!y0.1) then some true else ((bif decide (x14 > 0) then ((idx x10 (wrap .i64 (x14 - 1))).bind fun v1 => some (decide (v0≤v1))) else some false).bind fun b0 => some b0)).bind fun b1 =>
  bif b1 then
   some (.inr (.inl (4,())))
  else
   some (.inl ((x0,x1,x2,x3,x4,x5,x6,x7,()),(x8,x9,x10,x11,()),x12,x13,(wrap .i64 (x14 + 1)),()))
 else
  some (.inr (.inr ()))
def gcq_122F (x:((List (Int×Bool)×List Y2×List (Int×Bool×Bool×List (Int×Int))×List Y14×List Y4×List Y6×List Y26×List Int×Unit)×Y21×List Int×Int×Int×Unit)):=gcq_122r x.1.1 x.1.2.1 x.1.2.2.1 x.1.2.2.2.1 x.1.2.2.2.2.1 x.1.2.2.2.2.2.1 x.1.2.2.2.2.2.2.1 x.1.2.2.2.2.2.2.2.1 x.2.1.1 x.2.1.2.1 x.2.1.2.2.1 x.2.1.2.2.2.1 x.2.2.1 x.2.2.2.1 x.2.2.2.2.1
def gcq_122 (x0:List (Int×Bool)) (x1:List Y2) (x2:List (Int×Bool×Bool×List (Int×Int))) (x3:List Y14) (x4:List Y4) (x5:List Y6) (x6:List Y26) (x7:List Int) (x8:List Y13) (x9:Int) (x10:List Int) (x11:Int) (x12:List Int) (x13 x14:Int):=loopL gcq_122F ((x0,x1,x2,x3,x4,x5,x6,x7,()),(x8,x9,x10,x11,()),x12,x13,x14,())
def gcq (x0:List (Int×Bool)) (x1:List Y2) (x2:List (Int×Bool×Bool×List (Int×Int))) (x3:List Y14) (x4:List Y4) (x5:List Y6) (x6:List Y26) (x7:List Int) (x8:List Y13) (x9:Int) (x10:List Int) (x11:Int):Option (Int×Unit) :=
 (gcp x8 (x5.length:Int)).bind fun y1 =>
 bif (y1.1 != 0) then
  some (y1.1,())
 else
  (bif decide (x9 < 0) then some true else some (decide (x9 > 100000))).bind fun b2 =>
  (bif b2 then some true else some (decide (x11 < 0))).bind fun b3 =>
  (bif b3 then some true else some (decide (x11 > 100))).bind fun b4 =>
  bif b4 then
   some (1,())
  else
   (gcq_122 x0 x1 x2 x3 x4 x5 x6 x7 x8 x9 x10 x11 x10 (x10.length:Int) 0).bind fun z0 =>
   sumElim z0 (fun z1 =>
    some (z1.1,()))
    (fun z2 =>
    some (0,()))
def gcr_250r (x0:List (Int×Bool)) (x1:List Y2) (x2:List (Int×Bool×Bool×List (Int×Int))) (x3:List Y14) (x4:List Y4) (x5:List Y6) (x6:List Y26) (x7:List Int) (x8:List Y6) (x9 x10:Int):Option (((List (Int×Bool)×List Y2×List (Int×Bool×Bool×List (Int×Int))×List Y14×List Y4×List Y6×List Y26×List Int×Unit)×List Y6×Int×Int×Unit) ⊕ ((Int×Unit) ⊕ ((List (Int×Bool)×List Y2×List (Int×Bool×Bool×List (Int×Int))×List Y14×List Y4×List Y6×List Y26×List Int×Unit)×Unit))) :=
 bif decide (x10 < x9) then
  (idx x8 x10).bind fun v0 =>
  (gcm x0 x1 x2 x3 x4 x5 x6 x7 v0.1 v0.2.1 v0.2.2.1 v0.2.2.2.1 v0.2.2.2.2.1 v0.2.2.2.2.2).bind fun y0 =>
  bif (y0.1 != 0) then
   some (.inr (.inl (y0.1,())))
  else
   some (.inl ((x0,x1,x2,x3,x4,x5,x6,x7,()),x8,x9,(wrap .i64 (x10 + 1)),()))
 else
  some (.inr (.inr ((x0,x1,x2,x3,x4,x5,x6,x7,()),())))
def gcr_250F (x:((List (Int×Bool)×List Y2×List (Int×Bool×Bool×List (Int×Int))×List Y14×List Y4×List Y6×List Y26×List Int×Unit)×List Y6×Int×Int×Unit)):=gcr_250r x.1.1 x.1.2.1 x.1.2.2.1 x.1.2.2.2.1 x.1.2.2.2.2.1 x.1.2.2.2.2.2.1 x.1.2.2.2.2.2.2.1 x.1.2.2.2.2.2.2.2.1 x.2.1 x.2.2.1 x.2.2.2.1
def gcr_250 (x0:List (Int×Bool)) (x1:List Y2) (x2:List (Int×Bool×Bool×List (Int×Int))) (x3:List Y14) (x4:List Y4) (x5:List Y6) (x6:List Y26) (x7:List Int) (x8:List Y6) (x9 x10:Int):=loopL gcr_250F ((x0,x1,x2,x3,x4,x5,x6,x7,()),x8,x9,x10,())
def gcr_506r (x0:List (Int×Bool)) (x1:List Y2) (x2:List (Int×Bool×Bool×List (Int×Int))) (x3:List Y14) (x4:List Y4) (x5:List Y6) (x6:List Y26) (x7:List Int) (x8:List Y26) (x9 x10:Int):Option (((List (Int×Bool)×List Y2×List (Int×Bool×Bool×List (Int×Int))×List Y14×List Y4×List Y6×List Y26×List Int×Unit)×List Y26×Int×Int×Unit) ⊕ ((Int×Unit) ⊕ ((List (Int×Bool)×List Y2×List (Int×Bool×Bool×List (Int×Int))×List Y14×List Y4×List Y6×List Y26×List Int×Unit)×Unit))) :=
 bif decide (x10 < x9) then
  (idx x8 x10).bind fun v1 =>
  (gcq x0 x1 x2 x3 x4 x5 x6 x7 v1.1 v1.2.1 v1.2.2.1 v1.2.2.2).bind fun y1 =>
  bif (y1.1 != 0) then
   some (.inr (.inl (y1.1,())))
  else
   some (.inl ((x0,x1,x2,x3,x4,x5,x6,x7,()),x8,x9,(wrap .i64 (x10 + 1)),()))
 else
  some (.inr (.inr ((x0,x1,x2,x3,x4,x5,x6,x7,()),())))
def gcr_506F (x:((List (Int×Bool)×List Y2×List (Int×Bool×Bool×List (Int×Int))×List Y14×List Y4×List Y6×List Y26×List Int×Unit)×List Y26×Int×Int×Unit)):=gcr_506r x.1.1 x.1.2.1 x.1.2.2.1 x.1.2.2.2.1 x.1.2.2.2.2.1 x.1.2.2.2.2.2.1 x.1.2.2.2.2.2.2.1 x.1.2.2.2.2.2.2.2.1 x.2.1 x.2.2.1 x.2.2.2.1
def gcr_506 (x0:List (Int×Bool)) (x1:List Y2) (x2:List (Int×Bool×Bool×List (Int×Int))) (x3:List Y14) (x4:List Y4) (x5:List Y6) (x6:List Y26) (x7:List Int) (x8:List Y26) (x9 x10:Int):=loopL gcr_506F ((x0,x1,x2,x3,x4,x5,x6,x7,()),x8,x9,x10,())
def gcr_1018r (x0:List Int) (x1 x2:Int):Option ((List Int×Int×Int×Unit) ⊕ ((Int×Unit) ⊕ (Unit))) :=
 bif decide (x2 < x1) then
  (idx x0 x2).bind fun v2 =>
  (bif decide (v2 < 1) then some true else some (decide (v2 > 3))).bind fun b0 =>
  bif b0 then
   some (.inr (.inl (19,())))
  else
   some (.inl (x0,x1,(wrap .i64 (x2 + 1)),()))
 else
  some (.inr (.inr ()))
def gcr_1018F (x:(List Int×Int×Int×Unit)):=gcr_1018r x.1 x.2.1 x.2.2.1
def gcr_1018 (x0:List Int) (x1 x2:Int):=loopL gcr_1018F (x0,x1,x2,())
def gcr (x0:List (Int×Bool)) (x1:List Y2) (x2:List (Int×Bool×Bool×List (Int×Int))) (x3:List Y14) (x4:List Y4) (x5:List Y6) (x6:List Y26) (x7:List Int):Option (Int×Unit) :=
 (gcg x0 x1 x2 x3).bind fun y2 =>
 bif (y2.1 != 0) then
  some (y2.1,())
 else
  (bif decide ((x4.length:Int) > 64) then some true else some (decide ((x5.length:Int) > 64))).bind fun b1 =>
  (bif b1 then some true else some (decide ((x6.length:Int) > 16))).bind fun b2 =>
  (bif b2 then some true else some (decide ((x7.length:Int) > 64))).bind fun b3 =>
  bif b3 then
   some (2,())
  else
   (gck x0 x1 x2 x3 x4 x5 x6 x7).bind fun y3 =>
   bif (y3.1 != 0) then
    some (y3.1,())
   else
    (gcr_250 x0 x1 x2 x3 x4 x5 x6 x7 x5 (x5.length:Int) 0).bind fun z0 =>
    sumElim z0 (fun z1 =>
     some (z1.1,()))
     (fun z2 =>
     (gcr_506 z2.1.1 z2.1.2.1 z2.1.2.2.1 z2.1.2.2.2.1 z2.1.2.2.2.2.1 z2.1.2.2.2.2.2.1 z2.1.2.2.2.2.2.2.1 z2.1.2.2.2.2.2.2.2.1 z2.1.2.2.2.2.2.2.1 (z2.1.2.2.2.2.2.2.1.length:Int) 0).bind fun z3 =>
     sumElim z3 (fun z4 =>
      some (z4.1,()))
      (fun z5 =>
      (gcr_1018 z5.1.2.2.2.2.2.2.2.1 (z5.1.2.2.2.2.2.2.2.1.length:Int) 0).bind fun z6 =>
      sumElim z6 (fun z7 =>
       some (z7.1,()))
       (fun z8 =>
       some (0,()))))
def gcs:Option (Y16×Unit) :=
 some (((-1125899906842624),1125899906842624,()),())
def gct (x0:Int):Option (Bool×Unit) :=
 (bif (x0 == 4) then some true else some (x0 == 5)).bind fun b0 =>
 (bif b0 then some true else some (x0 == 6)).bind fun b1 =>
 some (b1,())
def gcu (x0 x1 x2 x3 x4 x5 x6 x7 x8 x9 x10 x11 x12:Int):Option (Y16×Unit) :=
 (gcs).bind fun y0 =>
 (gci x0 x1 x2 x3 x4 x5 x6 x7).bind fun y1 =>
 (bif (y1.1 != 0) then some true else some (decide (x8 < 0))).bind fun b0 =>
 (bif b0 then some true else some ((x10 == y0.1.1) && ((x11 == y0.1.2.1) && true))).bind fun b1 =>
 (bif b1 then some true else some (decide (x12 < x9))).bind fun b2 =>
 (bif b2 then some true else some (decide ((wrap .i64 (x12 - x9)) > x7))).bind fun b3 =>
 bif b3 then
  some (y0.1,())
 else
  (gct x1).bind fun y2 =>
  bif y2.1 then
   some ((x10,x11,()),())
  else
   (bif (x1 == 1) then some true else some (x1 == 2)).bind fun b4 =>
   bif b4 then
    some (((bif decide (0 > (wrap .i64 (x10 - (wrap .i64 (Int.tdiv (wrap .i64 ((wrap .i64 (x6 * (wrap .i64 (x12 - x9)))) + 999)) 1000))))) then 0 else (wrap .i64 (x10 - (wrap .i64 (Int.tdiv (wrap .i64 ((wrap .i64 (x6 * (wrap .i64 (x12 - x9)))) + 999)) 1000))))),(bif decide (0 > (wrap .i64 (x11 + (wrap .i64 (Int.tdiv (wrap .i64 ((wrap .i64 (x6 * (wrap .i64 (x12 - x9)))) + 999)) 1000))))) then 0 else (wrap .i64 (x11 + (wrap .i64 (Int.tdiv (wrap .i64 ((wrap .i64 (x6 * (wrap .i64 (x12 - x9)))) + 999)) 1000))))),()),())
   else
    some (((wrap .i64 (x10 - (wrap .i64 (Int.tdiv (wrap .i64 ((wrap .i64 (x6 * (wrap .i64 (x12 - x9)))) + 999)) 1000)))),(wrap .i64 (x11 + (wrap .i64 (Int.tdiv (wrap .i64 ((wrap .i64 (x6 * (wrap .i64 (x12 - x9)))) + 999)) 1000)))),()),())
def gcv (x0:List (Int×Bool)) (x1:List Y2) (x2:List (Int×Bool×Bool×List (Int×Int))) (x3:List Y14) (x4:List Y4) (x5:List Y6) (x6:List Y26) (x7:List Int) (x8:List Y13) (x9 x10:Int):Option (Y16×Unit) :=
 (gcj x9 (x4.length:Int)).bind fun y0 =>
 (bif (!y0.1) then some true else some (decide (x9 ≥ (x8.length:Int)))).bind fun b0 =>
 (bif b0 then some true else ((idx x8 x9).bind fun v0 => some (v0.1 != x9))).bind fun b1 =>
 bif b1 then
  (gcs).bind fun y1 =>
  some (y1.1,())
 else
  (idx x4 x9).bind fun v1 =>
  (idx x8 x9).bind fun v2 =>
  (gcu v1.1 v1.2.1 v1.2.2.1 v1.2.2.2.1 v1.2.2.2.2.1 v1.2.2.2.2.2.1 v1.2.2.2.2.2.2.1 v1.2.2.2.2.2.2.2 v2.1 v2.2.1 v2.2.2.1 v2.2.2.2 x10).bind fun y2 =>
  some (y2.1,())
def gcw (x0 x1 x2:Int):Option (Int×Unit) :=
 bif decide (x0 > x1) then
  some (0,())
 else
  bif decide (x0 ≥ x2) then
   some (1,())
  else
   bif decide (x1 < x2) then
    some ((-1),())
   else
    some (0,())
def gcx_32383 (x0 x1 x2 x3:Int) (x4:Bool) (x5 x6:Int) (x7:Bool) (x8 x9:Int):Option (Y10×Y10×Unit) :=
 bif decide ((wrap .i64 (x0 - x5)) ≥ x3) then
  some ((false,(-1),x6,()),(x7,x8,x9,()),())
 else
  some ((x4,x5,x6,()),(x7,x8,x9,()),())
def gcx (x0 x1 x2:Int) (x3:Bool) (x4 x5 x6 x7 x8:Int):Option ((Y10×Int×Unit)×Unit) :=
 (gcl x0 x1 x2).bind fun y0 =>
 bif (y0.1 != 0) then
  some (((false,0,0,()),y0.1,()),())
 else
  (bif decide (x8 < 0) then some true else some (decide (x8 > 2147483648))).bind fun b0 =>
  (bif b0 then some true else some (decide (x8 < x5))).bind fun b1 =>
  bif b1 then
   some (((false,0,0,()),8,()),())
  else
   (bif decide (x5 < 0) then some true else some (decide (x5 > 2147483648))).bind fun b2 =>
   (bif b2 then some true else some (decide (x4 < (-1)))).bind fun b3 =>
   (bif b3 then some true else some (decide (x4 > x5))).bind fun b4 =>
   (bif b4 then some true else ((bif (x4 != (-1)) then some (!x3) else some false).bind fun b5 => some b5)).bind fun b6 =>
   bif b6 then
    some (((false,0,0,()),10,()),())
   else
    (gcw x6 x7 x0).bind fun y1 =>
    bif (y1.1 != (-1)) then
     some (((true,(-1),x8,()),0,()),())
    else
     bif (!x3) then
      some (((x3,x4,x8,()),0,()),())
     else
      bif decide (x7 > x1) then
       some (((x3,(-1),x8,()),0,()),())
      else
       bif decide (x4 < 0) then
        (gcx_32383 x8 x0 x1 x2 x3 x8 x8 false 0 0).bind fun z0 =>
        some ((z0.1,0,()),())
       else
        (gcx_32383 x8 x0 x1 x2 x3 x4 x8 false 0 0).bind fun z1 =>
        some ((z1.1,0,()),())
def gcy (x0 x1 x2 x3 x4 x5:Int) (x6:Bool) (x7 x8 x9 x10:Int):Option (Int×Unit) :=
 bif (!x6) then
  some ((-1),())
 else
  (gcw x9 x10 x3).bind fun y0 =>
  bif (y0.1 == 1) then
   some (1,())
  else
   some (0,())
def gcz (x0 x1:Int):Option (Int×Unit) :=
 bif decide (x0 > x1) then
  some (0,())
 else
  (bif (x0 == 1) then some (x1 == 1) else some false).bind fun b0 =>
  bif b0 then
   some ((-1),())
  else
   (bif decide (x0 > 1) then some true else some (decide (x1 < 1))).bind fun b1 =>
   bif b1 then
    some (1,())
   else
    some (0,())
def gda (x0 x1 x2:Int):Option (Int×Unit) :=
 bif decide (x0 > x1) then
  some (0,())
 else
  (bif decide (x2≤0) then some true else some (decide (x0 ≥ x2))).bind fun b0 =>
  (bif b0 then some true else some (decide (x1≤(wrap .i64 (0 - x2))))).bind fun b1 =>
  bif b1 then
   some (1,())
  else
   (bif decide (x0 > (wrap .i64 (0 - x2))) then some (decide (x1 < x2)) else some false).bind fun b2 =>
   bif b2 then
    some ((-1),())
   else
    some (0,())
def gdb_58r (x0:List (Int×Int)) (x1:List Int) (x2:List (Int×Int)) (x3 x4:Int):Option ((List (Int×Int)×List Int×List (Int×Int)×Int×Int×Unit) ⊕ Y19) :=
 bif decide (x4 < x3) then
  (idx x2 x4).bind fun v0 =>
  (bif decide (v0.1 ≥ 0) then some (decide (v0.1 < (x0.length:Int))) else some false).bind fun b0 =>
  bif b0 then
   (idx x0 v0.1).bind fun v1 =>
   (gda v1.1 v1.2 v0.2).bind fun y0 =>
   bif (decide (0≤x4) && decide (x4 < (x1.length:Int))) then
   (x1[x4.toNat]?).bind fun v2 =>
   some (.inl (x0,(x1).set x4.toNat y0.1,x2,x3,(wrap .i64 (x4 + 1)),()))
   else none
  else
   some (.inl (x0,x1,x2,x3,(wrap .i64 (x4 + 1)),()))
 else
  some (.inr (x1,()))
def gdb_58F (x:(List (Int×Int)×List Int×List (Int×Int)×Int×Int×Unit)):=gdb_58r x.1 x.2.1 x.2.2.1 x.2.2.2.1 x.2.2.2.2.1
def gdb_58 (x0:List (Int×Int)) (x1:List Int) (x2:List (Int×Int)) (x3 x4:Int):=loopL gdb_58F (x0,x1,x2,x3,x4,())
def gdb (x0 x1:List (Int×Int)):Option Y19 :=
 bif (decide (0≤(x1.length:Int)) && (decide ((x1.length:Int)≤(x1.length:Int)) && decide ((x1.length:Int) * ((8:Nat):Int)≤((140737488355328:Nat):Int)))) then
 (gdb_58 x0 (List.replicate (x1.length:Int).toNat (0:Int)) x1 (x1.length:Int) 0).bind fun z0 =>
 some (z0.1,())
 else none
def gdc_506r (x0:List Y13) (x1:List Y18) (x2:List (Int×Int)) (x3:Int) (x4:List (Int×Bool)) (x5:List Y2) (x6:List (Int×Bool×Bool×List (Int×Int))) (x7:List Y14) (x8:List Y4) (x9:List Y6) (x10:List Y26) (x11 x12:List Int) (x13:List Y18) (x14:List Y6) (x15 x16:Int):Option ((List Y13×List Y18×List (Int×Int)×Int×(List (Int×Bool)×List Y2×List (Int×Bool×Bool×List (Int×Int))×List Y14×List Y4×List Y6×List Y26×List Int×Unit)×List Int×List Y18×List Y6×Int×Int×Unit) ⊕ ((List Int×List Y18×Int×Unit) ⊕ (List Int×List Y18×Unit))) :=
 bif decide (x16 < x15) then
  (idx x14 x16).bind fun v0 =>
  (gcv x4 x5 x6 x7 x8 x9 x10 x11 x0 v0.2.1 x3).bind fun y0 =>
  bif (v0.1 == 1) then
   (idx x1 x16).bind fun v1 =>
   (gcx v0.2.2.2.1 v0.2.2.2.2.1 v0.2.2.2.2.2 v1.1 v1.2.1 v1.2.2 y0.1.1 y0.1.2.1 x3).bind fun y1 =>
   bif (y1.1.2.1 != 0) then
    some (.inr (.inl (([]:List Int),([]:List Y18),y1.1.2.1,())))
   else
    (gcy v0.1 v0.2.1 v0.2.2.1 v0.2.2.2.1 v0.2.2.2.2.1 v0.2.2.2.2.2 y1.1.1.1 y1.1.1.2.1 y1.1.1.2.2.1 y0.1.1 y0.1.2.1).bind fun y2 =>
    bif (decide (0≤x16) && decide (x16 < (x13.length:Int))) then
    (x13[x16.toNat]?).bind fun v2 =>
    bif (decide (0≤x16) && decide (x16 < (x12.length:Int))) then
    (x12[x16.toNat]?).bind fun v3 =>
    some (.inl (x0,x1,x2,x3,(x4,x5,x6,x7,x8,x9,x10,x11,()),(x12).set x16.toNat y2.1,(x13).set x16.toNat (y1.1.1.1,y1.1.1.2.1,y1.1.1.2.2.1),x14,x15,(wrap .i64 (x16 + 1)),()))
    else none
    else none
  else
   bif (v0.1 == 2) then
    (gcw y0.1.1 y0.1.2.1 v0.2.2.1).bind fun y3 =>
    bif (decide (0≤x16) && decide (x16 < (x12.length:Int))) then
    (x12[x16.toNat]?).bind fun v4 =>
    some (.inl (x0,x1,x2,x3,(x4,x5,x6,x7,x8,x9,x10,x11,()),(x12).set x16.toNat (wrap .i64 (0 - y3.1)),x13,x14,x15,(wrap .i64 (x16 + 1)),()))
    else none
   else
    bif (v0.1 == 3) then
     (gcz y0.1.1 y0.1.2.1).bind fun y4 =>
     bif (decide (0≤x16) && decide (x16 < (x12.length:Int))) then
     (x12[x16.toNat]?).bind fun v5 =>
     some (.inl (x0,x1,x2,x3,(x4,x5,x6,x7,x8,x9,x10,x11,()),(x12).set x16.toNat y4.1,x13,x14,x15,(wrap .i64 (x16 + 1)),()))
     else none
    else
     bif (v0.1 == 4) then
      bif (decide (0≤x16) && decide (x16 < (x12.length:Int))) then
      (x12[x16.toNat]?).bind fun v6 =>
      (gcs).bind fun y5 =>
      bif ((y0.1.1 == y5.1.1) && ((y0.1.2.1 == y5.1.2.1) && true)) then
       bif (decide (0≤x16) && decide (x16 < (((x12).set x16.toNat (-1)).length:Int))) then
       (((x12).set x16.toNat (-1))[x16.toNat]?).bind fun v7 =>
       some (.inl (x0,x1,x2,x3,(x4,x5,x6,x7,x8,x9,x10,x11,()),((x12).set x16.toNat (-1)).set x16.toNat 1,x13,x14,x15,(wrap .i64 (x16 + 1)),()))
       else none
      else
       some (.inl (x0,x1,x2,x3,(x4,x5,x6,x7,x8,x9,x10,x11,()),(x12).set x16.toNat (-1),x13,x14,x15,(wrap .i64 (x16 + 1)),()))
      else none
     else
      bif (v0.1 == 5) then
       (gdb x2 ([(v0.2.1,v0.2.2.1)]:List (Int×Int))).bind fun y6 =>
       bif (decide (0≤0) && decide (0 < (y6.1.length:Int))) then
       (y6.1[0]?).bind fun v8 =>
       bif (decide (0≤x16) && decide (x16 < (x12.length:Int))) then
       (x12[x16.toNat]?).bind fun v9 =>
       some (.inl (x0,x1,x2,x3,(x4,x5,x6,x7,x8,x9,x10,x11,()),(x12).set x16.toNat (wrap .i64 (0 - v8)),x13,x14,x15,(wrap .i64 (x16 + 1)),()))
       else none
       else none
      else
       some (.inl (x0,x1,x2,x3,(x4,x5,x6,x7,x8,x9,x10,x11,()),x12,x13,x14,x15,(wrap .i64 (x16 + 1)),()))
 else
  some (.inr (.inr (x12,x13,())))
def gdc_506F (x:(List Y13×List Y18×List (Int×Int)×Int×(List (Int×Bool)×List Y2×List (Int×Bool×Bool×List (Int×Int))×List Y14×List Y4×List Y6×List Y26×List Int×Unit)×List Int×List Y18×List Y6×Int×Int×Unit)):=gdc_506r x.1 x.2.1 x.2.2.1 x.2.2.2.1 x.2.2.2.2.1.1 x.2.2.2.2.1.2.1 x.2.2.2.2.1.2.2.1 x.2.2.2.2.1.2.2.2.1 x.2.2.2.2.1.2.2.2.2.1 x.2.2.2.2.1.2.2.2.2.2.1 x.2.2.2.2.1.2.2.2.2.2.2.1 x.2.2.2.2.1.2.2.2.2.2.2.2.1 x.2.2.2.2.2.1 x.2.2.2.2.2.2.1 x.2.2.2.2.2.2.2.1 x.2.2.2.2.2.2.2.2.1 x.2.2.2.2.2.2.2.2.2.1
def gdc_506 (x0:List Y13) (x1:List Y18) (x2:List (Int×Int)) (x3:Int) (x4:List (Int×Bool)) (x5:List Y2) (x6:List (Int×Bool×Bool×List (Int×Int))) (x7:List Y14) (x8:List Y4) (x9:List Y6) (x10:List Y26) (x11 x12:List Int) (x13:List Y18) (x14:List Y6) (x15 x16:Int):=loopL gdc_506F (x0,x1,x2,x3,(x4,x5,x6,x7,x8,x9,x10,x11,()),x12,x13,x14,x15,x16,())
def gdc (x0:List (Int×Bool)) (x1:List Y2) (x2:List (Int×Bool×Bool×List (Int×Int))) (x3:List Y14) (x4:List Y4) (x5:List Y6) (x6:List Y26) (x7:List Int) (x8:List Y13) (x9:List Y18) (x10:List (Int×Int)) (x11:Int):Option ((List Int×List Y18×Int×Unit)×Unit) :=
 (gcr x0 x1 x2 x3 x4 x5 x6 x7).bind fun y7 =>
 bif (y7.1 != 0) then
  some ((([]:List Int),([]:List Y18),y7.1,()),())
 else
  (bif ((x8.length:Int) != (x4.length:Int)) then some true else some ((x9.length:Int) != (x5.length:Int))).bind fun b0 =>
  (bif b0 then some true else some ((x10.length:Int) != (x1.length:Int))).bind fun b1 =>
  bif b1 then
   some ((([]:List Int),([]:List Y18),11,()),())
  else
   (bif decide (x11 < 0) then some true else some (decide (x11 > 2147483648))).bind fun b2 =>
   bif b2 then
    some ((([]:List Int),([]:List Y18),8,()),())
   else
    bif (decide (0≤(x9.length:Int)) && (decide ((x9.length:Int)≤(x9.length:Int)) && decide ((x9.length:Int) * ((8:Nat):Int)≤((140737488355328:Nat):Int)))) then
    bif decide ((0 + x9.length) * 24≤140737488355328) then
    (gdc_506 x8 x9 x10 x11 x0 x1 x2 x3 x4 x5 x6 x7 (List.replicate (x9.length:Int).toNat (0:Int)) x9 x5 (x5.length:Int) 0).bind fun z0 =>
    sumElim z0 (fun z1 =>
     some (z1,()))
     (fun z2 =>
     some ((z2.1,z2.2.1,0,()),()))
    else none
    else none
def gdd:Option (Y12×Unit) :=
 some ((([]:List Int),0,()),())
def gde_63 (x0:List Int) (x1 x2 x3:Int):Option (Y12×Int×Unit) :=
 bif (!decide (x2 = 0)) then
 some ((x0,x1,()),(Int.tmod x3 x2),())
 else none
def gde (x0:List Int) (x1 x2:Int):Option (Int×(Y12×Unit)) :=
 (bif decide (x2 < 1) then some true else some (decide (x1 ≥ (x0.length:Int)))).bind fun b0 =>
 bif b0 then
  some (0,((x0,x1,()),()))
 else
  bif (decide (0≤(wrap .i64 ((wrap .i64 (x1 + 1)) - 1))) && decide ((wrap .i64 ((wrap .i64 (x1 + 1)) - 1)) < (x0.length:Int))) then
  (x0[(wrap .i64 ((wrap .i64 (x1 + 1)) - 1)).toNat]?).bind fun v0 =>
  (bif decide (x2 > 256) then some (decide ((wrap .i64 (x1 + 1)) < (x0.length:Int))) else some false).bind fun b1 =>
  bif b1 then
   bif (decide (0≤(wrap .i64 (x1 + 1))) && decide ((wrap .i64 (x1 + 1)) < (x0.length:Int))) then
   (x0[(wrap .i64 (x1 + 1)).toNat]?).bind fun v1 =>
   (gde_63 x0 (wrap .i64 ((wrap .i64 (x1 + 1)) + 1)) x2 (wrap .i64 ((wrap .i64 ((wrap .i64 v0) * 256)) + (wrap .i64 v1)))).bind fun z0 =>
   some (z0.2.1,(z0.1,()))
   else none
  else
   (gde_63 x0 (wrap .i64 (x1 + 1)) x2 (wrap .i64 v0)).bind fun z1 =>
   some (z1.2.1,(z1.1,()))
  else none
def gdf (x0:List Int) (x1 x2 x3:Int):Option (Int×(Y12×Unit)) :=
 (gde x0 x1 (wrap .i64 ((wrap .i64 (x3 - x2)) + 1))).bind fun y0 =>
 some ((wrap .i64 (x2 + y0.1)),y0.2)
def gdg_506r (x0:List Int) (x1:Int) (x2:List (Int×Bool)) (x3:List Y2) (x4:List (Int×Bool×Bool×List (Int×Int))) (x5:List Y14) (x6:List Y4) (x7:List Y6) (x8:List Y26) (x9:List Int) (x10:List Y7) (x11:List Int) (x12:Int) (x13:List (Int×Bool)) (x14:List Y2) (x15:List (Int×Bool×Bool×List (Int×Int))) (x16:List Y14) (x17:List Y4) (x18:List Y6) (x19:List Y26) (x20:List Int) (x21:List Y7) (x22:List Int) (x23 x24:Int):Option ((Y12×(List (Int×Bool)×List Y2×List (Int×Bool×Bool×List (Int×Int))×List Y14×List Y4×List Y6×List Y26×List Int×Unit)×Y27×(List (Int×Bool)×List Y2×List (Int×Bool×Bool×List (Int×Int))×List Y14×List Y4×List Y6×List Y26×List Int×Unit)×Y27×Int×Unit) ⊕ (Y12×(List (Int×Bool)×List Y2×List (Int×Bool×Bool×List (Int×Int))×List Y14×List Y4×List Y6×List Y26×List Int×Unit)×Y27×(List (Int×Bool)×List Y2×List (Int×Bool×Bool×List (Int×Int))×List Y14×List Y4×List Y6×List Y26×List Int×Unit)×Y27×Unit)) :=
 bif decide (x24 > 0) then
  bif decide ((x21.length + 1) * 32≤140737488355328) then
  bif (decide (0≤0) && decide (0 < (x22.length:Int))) then
  (x22[0]?).bind fun v0 =>
  some (.inl ((x0,x1,()),(x2,x3,x4,x5,x6,x7,x8,x9,()),(x10,x11,x12,()),(x13,x14,x15,x16,x17,x18,x19,x20,()),((x21 ++ ([((wrap .i64 ((x21.length:Int) - 1)),0,0,true,false)]:List Y7)),(x22).set 0 (wrap .i64 (((x21 ++ ([((wrap .i64 ((x21.length:Int) - 1)),0,0,true,false)]:List Y7)).length:Int) - 1)),x23,()),(wrap .i64 (x24 - 1)),()))
  else none
  else none
 else
  some (.inr ((x0,x1,()),(x2,x3,x4,x5,x6,x7,x8,x9,()),(x10,x11,x12,()),(x13,x14,x15,x16,x17,x18,x19,x20,()),(x21,x22,x23,()),()))
def gdg_506F (x:(Y12×(List (Int×Bool)×List Y2×List (Int×Bool×Bool×List (Int×Int))×List Y14×List Y4×List Y6×List Y26×List Int×Unit)×Y27×(List (Int×Bool)×List Y2×List (Int×Bool×Bool×List (Int×Int))×List Y14×List Y4×List Y6×List Y26×List Int×Unit)×Y27×Int×Unit)):=gdg_506r x.1.1 x.1.2.1 x.2.1.1 x.2.1.2.1 x.2.1.2.2.1 x.2.1.2.2.2.1 x.2.1.2.2.2.2.1 x.2.1.2.2.2.2.2.1 x.2.1.2.2.2.2.2.2.1 x.2.1.2.2.2.2.2.2.2.1 x.2.2.1.1 x.2.2.1.2.1 x.2.2.1.2.2.1 x.2.2.2.1.1 x.2.2.2.1.2.1 x.2.2.2.1.2.2.1 x.2.2.2.1.2.2.2.1 x.2.2.2.1.2.2.2.2.1 x.2.2.2.1.2.2.2.2.2.1 x.2.2.2.1.2.2.2.2.2.2.1 x.2.2.2.1.2.2.2.2.2.2.2.1 x.2.2.2.2.1.1 x.2.2.2.2.1.2.1 x.2.2.2.2.1.2.2.1 x.2.2.2.2.2.1
def gdg_506 (x0:List Int) (x1:Int) (x2:List (Int×Bool)) (x3:List Y2) (x4:List (Int×Bool×Bool×List (Int×Int))) (x5:List Y14) (x6:List Y4) (x7:List Y6) (x8:List Y26) (x9:List Int) (x10:List Y7) (x11:List Int) (x12:Int) (x13:List (Int×Bool)) (x14:List Y2) (x15:List (Int×Bool×Bool×List (Int×Int))) (x16:List Y14) (x17:List Y4) (x18:List Y6) (x19:List Y26) (x20:List Int) (x21:List Y7) (x22:List Int) (x23 x24:Int):=loopL gdg_506F ((x0,x1,()),(x2,x3,x4,x5,x6,x7,x8,x9,()),(x10,x11,x12,()),(x13,x14,x15,x16,x17,x18,x19,x20,()),(x21,x22,x23,()),x24,())
def gdg (x0:List Int) (x1:Int):Option (((List (Int×Bool)×List Y2×List (Int×Bool×Bool×List (Int×Int))×List Y14×List Y4×List Y6×List Y26×List Int×Unit)×Y27×Unit)×(Y12×Unit)) :=
 (gdf x0 x1 1 4).bind fun y0 =>
 (gdf y0.2.1.1 y0.2.1.2.1 1 5).bind fun y1 =>
 (gdf y1.2.1.1 y1.2.1.2.1 1 5).bind fun y2 =>
 (gde y2.2.1.1 y2.2.1.2.1 3).bind fun y3 =>
 (gdg_506 y3.2.1.1 y3.2.1.2.1 ([]:List (Int×Bool)) ([]:List Y2) ([]:List (Int×Bool×Bool×List (Int×Int))) ([]:List Y14) ([]:List Y4) ([]:List Y6) ([]:List Y26) ([]:List Int) ([]:List Y7) ([]:List Int) 0 ([(0,true),(0,true)]:List (Int×Bool)) ([(0,1,y0.1,4,false,false,1,1,90000,90000)]:List Y2) ([]:List (Int×Bool×Bool×List (Int×Int))) ([]:List Y14) ([(0,1,0,0,1000,1,1000,60)]:List Y4) ([(1,0,0,100,60,y1.1)]:List Y6) ([(([(1,0,0,0)]:List Y13),y2.1,([0]:List Int),1)]:List Y26) ([1,2]:List Int) ([((-1),0,0,true,false)]:List Y7) ([0]:List Int) 3 y3.1).bind fun z0 =>
 some (z0.2.2.2,(z0.1,()))
def gdh_122r (x0 x1:List Int) (x2:List Y13) (x3 x4:Int):Option ((List Int×List Int×List Y13×Int×Int×Unit) ⊕ Y19) :=
 bif decide (x4 < x3) then
  (idx x2 x4).bind fun v0 =>
  bif (v0.1 == 1) then
   (bif decide (v0.2.1 < (x0.length:Int)) then ((idx x0 v0.2.1).bind fun v1 => some (decide (v1 ≥ (-1)))) else some false).bind fun b0 =>
   (bif b0 then ((idx x0 v0.2.1).bind fun v2 => some (decide (v2≤1))) else some false).bind fun b1 =>
   bif b1 then
    (idx x0 v0.2.1).bind fun v3 =>
    bif (decide (0≤x4) && decide (x4 < (x1.length:Int))) then
    (x1[x4.toNat]?).bind fun v4 =>
    some (.inl (x0,(x1).set x4.toNat v3,x2,x3,(wrap .i64 (x4 + 1)),()))
    else none
   else
    some (.inl (x0,x1,x2,x3,(wrap .i64 (x4 + 1)),()))
  else
   bif (v0.1 == 2) then
    bif (decide (0≤v0.2.2.1) && decide (v0.2.2.1 < (x1.length:Int))) then
    (x1[v0.2.2.1.toNat]?).bind fun v5 =>
    bif (decide (0≤x4) && decide (x4 < (x1.length:Int))) then
    (x1[x4.toNat]?).bind fun v6 =>
    some (.inl (x0,(x1).set x4.toNat (wrap .i64 (0 - v5)),x2,x3,(wrap .i64 (x4 + 1)),()))
    else none
    else none
   else
    bif (v0.1 == 3) then
     bif (decide (0≤v0.2.2.1) && decide (v0.2.2.1 < (x1.length:Int))) then
     (x1[v0.2.2.1.toNat]?).bind fun v7 =>
     bif (decide (0≤v0.2.2.2) && decide (v0.2.2.2 < (x1.length:Int))) then
     (x1[v0.2.2.2.toNat]?).bind fun v8 =>
     bif (decide (0≤x4) && decide (x4 < (x1.length:Int))) then
     (x1[x4.toNat]?).bind fun v9 =>
     some (.inl (x0,(x1).set x4.toNat (bif decide (v8 < v7) then v8 else v7),x2,x3,(wrap .i64 (x4 + 1)),()))
     else none
     else none
     else none
    else
     bif (decide (0≤v0.2.2.1) && decide (v0.2.2.1 < (x1.length:Int))) then
     (x1[v0.2.2.1.toNat]?).bind fun v10 =>
     bif (decide (0≤v0.2.2.2) && decide (v0.2.2.2 < (x1.length:Int))) then
     (x1[v0.2.2.2.toNat]?).bind fun v11 =>
     bif (decide (0≤x4) && decide (x4 < (x1.length:Int))) then
     (x1[x4.toNat]?).bind fun v12 =>
     some (.inl (x0,(x1).set x4.toNat (bif decide (v11 > v10) then v11 else v10),x2,x3,(wrap .i64 (x4 + 1)),()))
     else none
     else none
     else none
 else
  some (.inr (x1,()))
def gdh_122F (x:(List Int×List Int×List Y13×Int×Int×Unit)):=gdh_122r x.1 x.2.1 x.2.2.1 x.2.2.2.1 x.2.2.2.2.1
def gdh_122 (x0 x1:List Int) (x2:List Y13) (x3 x4:Int):=loopL gdh_122F (x0,x1,x2,x3,x4,())
def gdh (x0:List Y13) (x1:List Int):Option (Int×Unit) :=
 (gco x0).bind fun y0 =>
 bif (!y0.1) then
  some (0,())
 else
  bif (decide (0≤(x0.length:Int)) && (decide ((x0.length:Int)≤(x0.length:Int)) && decide ((x0.length:Int) * ((8:Nat):Int)≤((140737488355328:Nat):Int)))) then
  (gdh_122 x1 (List.replicate (x0.length:Int).toNat (0:Int)) x0 (x0.length:Int) 0).bind fun z0 =>
  bif (decide (0≤(wrap .i64 ((z0.1.length:Int) - 1))) && decide ((wrap .i64 ((z0.1.length:Int) - 1)) < (z0.1.length:Int))) then
  (z0.1[(wrap .i64 ((z0.1.length:Int) - 1)).toNat]?).bind fun v13 =>
  some (v13,())
  else none
  else none
def gdi_1018r (x0:List Int) (x1:Int) (x2:List Y18) (x3:List Int) (x4:List Y26) (x5 x6:Int):Option ((List Int×Int×List Y18×List Int×List Y26×Int×Int×Unit) ⊕ (List Y18×List Int×Unit)) :=
 bif decide (x6 < x5) then
  (idx x4 x6).bind fun v0 =>
  bif (decide (0≤x6) && decide (x6 < (x2.length:Int))) then
  (gdh v0.1 x0).bind fun y0 =>
  bif (y0.1 == (-1)) then
   (x2[x6.toNat]?).bind fun v1 =>
   bif (v1.2.1 == (-1)) then
    (x2[x6.toNat]?).bind fun v2 =>
    some (.inl (x0,x1,(x2).set x6.toNat (v2.1,x1,v2.2.2),x3,x4,x5,(wrap .i64 (x6 + 1)),()))
   else
    some (.inl (x0,x1,x2,x3,x4,x5,(wrap .i64 (x6 + 1)),()))
  else
   (x2[x6.toNat]?).bind fun v3 =>
   (((x2).set x6.toNat (v3.1,(-1),v3.2.2))[x6.toNat]?).bind fun v4 =>
   bif (!v4.1) then
    (((x2).set x6.toNat (v3.1,(-1),v3.2.2))[x6.toNat]?).bind fun v5 =>
    ((((x2).set x6.toNat (v3.1,(-1),v3.2.2)).set x6.toNat (true,v5.2.1,v5.2.2))[x6.toNat]?).bind fun v6 =>
    bif decide ((x3.length + 1) * 8≤140737488355328) then
    some (.inl (x0,x1,(((x2).set x6.toNat (v3.1,(-1),v3.2.2)).set x6.toNat (true,v5.2.1,v5.2.2)).set x6.toNat (v6.1,v6.2.1,y0.1),(x3 ++ ([x6]:List Int)),x4,x5,(wrap .i64 (x6 + 1)),()))
    else none
   else
    some (.inl (x0,x1,(x2).set x6.toNat (v3.1,(-1),v3.2.2),x3,x4,x5,(wrap .i64 (x6 + 1)),()))
  else none
 else
  some (.inr (x2,x3,()))
def gdi_1018F (x:(List Int×Int×List Y18×List Int×List Y26×Int×Int×Unit)):=gdi_1018r x.1 x.2.1 x.2.2.1 x.2.2.2.1 x.2.2.2.2.1 x.2.2.2.2.2.1 x.2.2.2.2.2.2.1
def gdi_1018 (x0:List Int) (x1:Int) (x2:List Y18) (x3:List Int) (x4:List Y26) (x5 x6:Int):=loopL gdi_1018F (x0,x1,x2,x3,x4,x5,x6,())
def gdi (x0:List (Int×Bool)) (x1:List Y2) (x2:List (Int×Bool×Bool×List (Int×Int))) (x3:List Y14) (x4:List Y4) (x5:List Y6) (x6:List Y26) (x7 x8:List Int) (x9:List Y18) (x10:Int):Option ((List Y18×List Int×Int×Unit)×Unit) :=
 (gcr x0 x1 x2 x3 x4 x5 x6 x7).bind fun y1 =>
 bif (y1.1 != 0) then
  some ((([]:List Y18),([]:List Int),y1.1,()),())
 else
  (bif ((x8.length:Int) != (x5.length:Int)) then some true else some ((x9.length:Int) != (x6.length:Int))).bind fun b0 =>
  bif b0 then
   some ((([]:List Y18),([]:List Int),11,()),())
  else
   (bif decide (x10 < 0) then some true else some (decide (x10 > 2147483648))).bind fun b1 =>
   bif b1 then
    some ((([]:List Y18),([]:List Int),8,()),())
   else
    bif decide ((0 + x9.length) * 24≤140737488355328) then
    (gdi_1018 x8 x10 x9 ([]:List Int) x6 (x6.length:Int) 0).bind fun z0 =>
    some ((z0.1,z0.2.1,0,()),())
    else none
def gdj_58r (x0 x1:List Int) (x2:Int):Option ((List Int×List Int×Int×Unit) ⊕ ((Bool×Unit) ⊕ (Unit))) :=
 bif decide (x2 < (x0.length:Int)) then
  (idx x0 x2).bind fun v0 =>
  (idx x1 x2).bind fun v1 =>
  bif (v0 != v1) then
   some (.inr (.inl (false,())))
  else
   some (.inl (x0,x1,(wrap .i64 (x2 + 1)),()))
 else
  some (.inr (.inr ()))
def gdj_58F (x:(List Int×List Int×Int×Unit)):=gdj_58r x.1 x.2.1 x.2.2.1
def gdj_58 (x0 x1:List Int) (x2:Int):=loopL gdj_58F (x0,x1,x2,())
def gdj (x0 x1:List Int):Option (Bool×Unit) :=
 bif ((x0.length:Int) != (x1.length:Int)) then
  some (false,())
 else
  (gdj_58 x0 x1 0).bind fun z0 =>
  sumElim z0 (fun z1 =>
   some (z1.1,()))
   (fun z2 =>
   some (true,()))
def gdk:Option (Bool×Unit) :=
 (gdd).bind fun y0 =>
 (gdg y0.1.1 y0.1.2.1).bind fun y1 =>
 (gdc y1.1.1.1 y1.1.1.2.1 y1.1.1.2.2.1 y1.1.1.2.2.2.1 y1.1.1.2.2.2.2.1 y1.1.1.2.2.2.2.2.1 y1.1.1.2.2.2.2.2.2.1 y1.1.1.2.2.2.2.2.2.2.1 ([((-1),0,0,0)]:List Y13) ([(false,(-1),0)]:List Y18) ([(300,300)]:List (Int×Int)) 3).bind fun y2 =>
 (gdc y1.1.1.1 y1.1.1.2.1 y1.1.1.2.2.1 y1.1.1.2.2.2.1 y1.1.1.2.2.2.2.1 y1.1.1.2.2.2.2.2.1 y1.1.1.2.2.2.2.2.2.1 y1.1.1.2.2.2.2.2.2.2.1 ([(0,0,1,2)]:List Y13) ([(false,(-1),0)]:List Y18) ([(300,300)]:List (Int×Int)) 3).bind fun y3 =>
 (gdi y1.1.1.1 y1.1.1.2.1 y1.1.1.2.2.1 y1.1.1.2.2.2.1 y1.1.1.2.2.2.2.1 y1.1.1.2.2.2.2.2.1 y1.1.1.2.2.2.2.2.2.1 y1.1.1.2.2.2.2.2.2.2.1 y2.1.1 ([(false,2,0)]:List Y18) 3).bind fun y4 =>
 (gdi y1.1.1.1 y1.1.1.2.1 y1.1.1.2.2.1 y1.1.1.2.2.2.1 y1.1.1.2.2.2.2.1 y1.1.1.2.2.2.2.2.1 y1.1.1.2.2.2.2.2.2.1 y1.1.1.2.2.2.2.2.2.2.1 y3.1.1 ([(false,(-1),0)]:List Y18) 3).bind fun y5 =>
 (gcr y1.1.1.1 y1.1.1.2.1 y1.1.1.2.2.1 y1.1.1.2.2.2.1 y1.1.1.2.2.2.2.1 y1.1.1.2.2.2.2.2.1 y1.1.1.2.2.2.2.2.2.1 y1.1.1.2.2.2.2.2.2.2.1).bind fun y6 =>
 (bif (y6.1 == 0) then some (y2.1.2.2.1 == 0) else some false).bind fun b0 =>
 (bif b0 then some (y3.1.2.2.1 == 0) else some false).bind fun b1 =>
 (bif b1 then ((gdj y2.1.1 ([0]:List Int)).bind fun y7 => some y7.1) else some false).bind fun b2 =>
 (bif b2 then ((gdj y3.1.1 ([(-1)]:List Int)).bind fun y8 => some y8.1) else some false).bind fun b3 =>
 (bif b3 then some ((y2.1.2.1.length:Int) == 1) else some false).bind fun b4 =>
 (bif b4 then (bif (decide (0≤0) && decide (0 < (y2.1.2.1.length:Int))) then ((y2.1.2.1[0]?).bind fun v0 => some v0.1) else none) else some false).bind fun b5 =>
 (bif b5 then some (y4.1.2.2.1 == 0) else some false).bind fun b6 =>
 (bif b6 then some (y5.1.2.2.1 == 0) else some false).bind fun b7 =>
 (bif b7 then ((gdj y4.1.2.1 ([0]:List Int)).bind fun y9 => some y9.1) else some false).bind fun b8 =>
 (bif b8 then some ((y5.1.2.1.length:Int) == 0) else some false).bind fun b9 =>
 (bif b9 then some ((y4.1.1.length:Int) == 1) else some false).bind fun b10 =>
 (bif b10 then (bif (decide (0≤0) && decide (0 < (y4.1.1.length:Int))) then ((y4.1.1[0]?).bind fun v1 => some ((v1.1 == true) && ((v1.2.1 == (-1)) && ((v1.2.2 == 0) && true)))) else none) else some false).bind fun b11 =>
 (bif b11 then some ((y5.1.1.length:Int) == 1) else some false).bind fun b12 =>
 (bif b12 then (bif (decide (0≤0) && decide (0 < (y5.1.1.length:Int))) then ((y5.1.1[0]?).bind fun v2 => some ((v2.1 == false) && ((v2.2.1 == 3) && ((v2.2.2 == 0) && true)))) else none) else some false).bind fun b13 =>
 some (b13,())
def gdl_8377151 (x0:List Int) (x1:Int) (x2:List (Int×Bool)) (x3:List Y2) (x4:List (Int×Bool×Bool×List (Int×Int))) (x5:List Y14) (x6:List Y4) (x7:List Y6) (x8:List Y26) (x9 x10 x11:List Int) (x12:List (Int×Int)) (x13:List Int) (x14:List Y13) (x15 x16 x17 x18 x19 x20:Int):Option (Y12×(List (Int×Bool)×List Y2×List (Int×Bool×Bool×List (Int×Int))×List Y14×List Y4×List Y6×List Y26×List Int×Unit)×Y9×List (Int×Int)×List Int×List Y13×Unit×Int×Int×Unit) :=
 bif decide ((x14.length + 1) * 32≤140737488355328) then
 some ((x0,x1,()),(x2,x3,x4,x5,x6,x7,x8,x9,()),(x10,x11,()),x12,x13,(x14 ++ ([(x15,x16,x17,x18)]:List Y13)),(),x19,x20,())
 else none
def gdl_2094287 (x0:List Int) (x1:Int) (x2:List (Int×Bool)) (x3:List Y2) (x4:List (Int×Bool×Bool×List (Int×Int))) (x5:List Y14) (x6:List Y4) (x7:List Y6) (x8:List Y26) (x9 x10 x11:List Int) (x12:List (Int×Int)) (x13:List Int) (x14:List Y13) (x15 x16 x17 x18 x19 x20 x21 x22 x23 x24 x25:Int):Option (Y12×(List (Int×Bool)×List Y2×List (Int×Bool×Bool×List (Int×Int))×List Y14×List Y4×List Y6×List Y26×List Int×Unit)×Y9×List (Int×Int)×List Int×List Y13×Unit×Int×Int×Unit) :=
 bif (decide (0≤x15) && decide (x15 < (x13.length:Int))) then
 (x13[x15.toNat]?).bind fun v0 =>
 bif (decide (0≤x15) && decide (x15 < (x13.length:Int))) then
 (x13[x15.toNat]?).bind fun v1 =>
 (gar x17).bind fun y0 =>
 bif (!y0.1) then
  (gab x0 x1 5).bind fun y1 =>
  (gab y1.2.1.1 y1.2.1.2.1 5).bind fun y2 =>
  (gdl_8377151 y2.2.1.1 y2.2.1.2.1 x2 x3 x4 x5 x6 x7 x8 x9 x10 x11 x12 x13 x14 x15 5 (wrap .i64 (v0 - y1.1)) (wrap .i64 (v1 + y2.1)) x24 x25).bind fun z0 =>
  some z0
 else
  (gdl_8377151 x0 x1 x2 x3 x4 x5 x6 x7 x8 x9 x10 x11 x12 x13 x14 x15 5 v0 v1 x24 x25).bind fun z1 =>
  some z1
 else none
 else none
def gdl_1047143 (x0:List Int) (x1:Int) (x2:List (Int×Bool)) (x3:List Y2) (x4:List (Int×Bool×Bool×List (Int×Int))) (x5:List Y14) (x6:List Y4) (x7:List Y6) (x8:List Y26) (x9 x10 x11:List Int) (x12:List (Int×Int)) (x13:List Int) (x14:List Y13) (x15 x16 x17 x18 x19 x20 x21 x22 x23 x24 x25:Int):Option (Y12×(List (Int×Bool)×List Y2×List (Int×Bool×Bool×List (Int×Int))×List Y14×List Y4×List Y6×List Y26×List Int×Unit)×Y9×List (Int×Int)×List Int×List Y13×Unit×Int×Int×Unit) :=
 (gar x17).bind fun y3 =>
 bif y3.1 then
  (gab x0 x1 2).bind fun y4 =>
  bif (decide (0≤x15) && decide (x15 < (x13.length:Int))) then
  (x13[x15.toNat]?).bind fun v2 =>
  (gdl_2094287 y4.2.1.1 y4.2.1.2.1 x2 x3 x4 x5 x6 x7 x8 x9 x10 x11 x12 ((x13).set x15.toNat y4.1) x14 x15 x16 x17 x18 x19 x20 x21 x22 x23 x24 x25).bind fun z2 =>
  some z2
  else none
 else
  (gdl_2094287 x0 x1 x2 x3 x4 x5 x6 x7 x8 x9 x10 x11 x12 x13 x14 x15 x16 x17 x18 x19 x20 x21 x22 x23 x24 x25).bind fun z3 =>
  some z3
def gdl_4090r (x0:List Int) (x1:Int) (x2:List (Int×Bool)) (x3:List Y2) (x4:List (Int×Bool×Bool×List (Int×Int))) (x5:List Y14) (x6:List Y4) (x7:List Y6) (x8:List Y26) (x9 x10 x11:List Int) (x12:List (Int×Int)) (x13:List Int) (x14:List Y13) (x15 x16:Int):Option ((Y12×(List (Int×Bool)×List Y2×List (Int×Bool×Bool×List (Int×Int))×List Y14×List Y4×List Y6×List Y26×List Int×Unit)×Y9×List (Int×Int)×List Int×List Y13×Unit×Int×Int×Unit) ⊕ (Y12×(List (Int×Bool)×List Y2×List (Int×Bool×Bool×List (Int×Int))×List Y14×List Y4×List Y6×List Y26×List Int×Unit)×Y9×List (Int×Int)×List Int×List Y13×Unit)) :=
 bif decide (x16 < x15) then
  bif (decide (0≤x16) && decide (x16 < (x6.length:Int))) then
  (x6[x16.toNat]?).bind fun v3 =>
  (gab x0 x1 120).bind fun y5 =>
  bif (decide (0≤x16) && decide (x16 < (x13.length:Int))) then
  (x13[x16.toNat]?).bind fun v4 =>
  bif (v3.2.1 == 3) then
   bif (decide (0≤v3.2.2.1) && decide (v3.2.2.1 < (x11.length:Int))) then
   (x11[v3.2.2.1.toNat]?).bind fun v5 =>
   bif (decide (0≤x16) && decide (x16 < (((x13).set x16.toNat y5.1).length:Int))) then
   (((x13).set x16.toNat y5.1)[x16.toNat]?).bind fun v6 =>
   (gdl_1047143 y5.2.1.1 y5.2.1.2.1 x2 x3 x4 x5 x6 x7 x8 x9 x10 x11 x12 (((x13).set x16.toNat y5.1).set x16.toNat v5) x14 x16 v3.1 v3.2.1 v3.2.2.1 v3.2.2.2.1 v3.2.2.2.2.1 v3.2.2.2.2.2.1 v3.2.2.2.2.2.2.1 v3.2.2.2.2.2.2.2 x15 x16).bind fun z4 =>
   some (.inl (z4.1,z4.2.1,z4.2.2.1,z4.2.2.2.1,z4.2.2.2.2.1,z4.2.2.2.2.2.1,(),z4.2.2.2.2.2.2.2.1,(wrap .i64 (z4.2.2.2.2.2.2.2.2.1 + 1)),()))
   else none
   else none
  else
   (gdl_1047143 y5.2.1.1 y5.2.1.2.1 x2 x3 x4 x5 x6 x7 x8 x9 x10 x11 x12 ((x13).set x16.toNat y5.1) x14 x16 v3.1 v3.2.1 v3.2.2.1 v3.2.2.2.1 v3.2.2.2.2.1 v3.2.2.2.2.2.1 v3.2.2.2.2.2.2.1 v3.2.2.2.2.2.2.2 x15 x16).bind fun z5 =>
   some (.inl (z5.1,z5.2.1,z5.2.2.1,z5.2.2.2.1,z5.2.2.2.2.1,z5.2.2.2.2.2.1,(),z5.2.2.2.2.2.2.2.1,(wrap .i64 (z5.2.2.2.2.2.2.2.2.1 + 1)),()))
  else none
  else none
 else
  some (.inr ((x0,x1,()),(x2,x3,x4,x5,x6,x7,x8,x9,()),(x10,x11,()),x12,x13,x14,()))
def gdl_4090F (x:(Y12×(List (Int×Bool)×List Y2×List (Int×Bool×Bool×List (Int×Int))×List Y14×List Y4×List Y6×List Y26×List Int×Unit)×Y9×List (Int×Int)×List Int×List Y13×Unit×Int×Int×Unit)):=gdl_4090r x.1.1 x.1.2.1 x.2.1.1 x.2.1.2.1 x.2.1.2.2.1 x.2.1.2.2.2.1 x.2.1.2.2.2.2.1 x.2.1.2.2.2.2.2.1 x.2.1.2.2.2.2.2.2.1 x.2.1.2.2.2.2.2.2.2.1 x.2.2.1.1 x.2.2.1.2.1 x.2.2.2.1 x.2.2.2.2.1 x.2.2.2.2.2.1 x.2.2.2.2.2.2.2.1 x.2.2.2.2.2.2.2.2.1
def gdl_4090 (x0:List Int) (x1:Int) (x2:List (Int×Bool)) (x3:List Y2) (x4:List (Int×Bool×Bool×List (Int×Int))) (x5:List Y14) (x6:List Y4) (x7:List Y6) (x8:List Y26) (x9 x10 x11:List Int) (x12:List (Int×Int)) (x13:List Int) (x14:List Y13) (x15 x16:Int):=loopL gdl_4090F ((x0,x1,()),(x2,x3,x4,x5,x6,x7,x8,x9,()),(x10,x11,()),x12,x13,x14,(),x15,x16,())
def gdl_8387175 (x0:List (Int×Bool)) (x1:List Y2) (x2:List (Int×Bool×Bool×List (Int×Int))) (x3:List Y14) (x4:List Y4) (x5:List Y6) (x6:List Y26) (x7 x8 x9 x10 x11:List Int) (x12:Int) (x13:Bool) (x14 x15:Int):Option ((Bool×Unit) ⊕ ((List (Int×Bool)×List Y2×List (Int×Bool×Bool×List (Int×Int))×List Y14×List Y4×List Y6×List Y26×List Int×Unit)×Y9×List Int×List Int×Unit×Int×Int×Unit)) :=
 (bif x13 then (bif (decide (0≤x12) && decide (x12 < (x11.length:Int))) then ((x11[x12.toNat]?).bind fun v7 => some (v7 == (-1))) else none) else some false).bind fun b0 =>
 (bif b0 then some true else ((bif (!x13) then (bif (decide (0≤x12) && decide (x12 < (x11.length:Int))) then ((x11[x12.toNat]?).bind fun v8 => some (v8 == 1)) else none) else some false).bind fun b1 => some b1)).bind fun b2 =>
 bif b2 then
  some (.inl (false,()))
 else
  some (.inr ((x0,x1,x2,x3,x4,x5,x6,x7,()),(x8,x9,()),x10,x11,(),x14,x15,()))
def gdl_32762r (x0:List (Int×Bool)) (x1:List Y2) (x2:List (Int×Bool×Bool×List (Int×Int))) (x3:List Y14) (x4:List Y4) (x5:List Y6) (x6:List Y26) (x7 x8 x9 x10 x11:List Int) (x12 x13:Int):Option (((List (Int×Bool)×List Y2×List (Int×Bool×Bool×List (Int×Int))×List Y14×List Y4×List Y6×List Y26×List Int×Unit)×Y9×List Int×List Int×Unit×Int×Int×Unit) ⊕ ((Bool×Unit) ⊕ (Unit))) :=
 bif decide (x13 < x12) then
  bif (decide (0≤x13) && decide (x13 < (x5.length:Int))) then
  (x5[x13.toNat]?).bind fun v9 =>
  bif (v9.1 == 2) then
   bif (decide (0≤v9.2.1) && decide (v9.2.1 < (x10.length:Int))) then
   (x10[v9.2.1.toNat]?).bind fun v10 =>
   (gdl_8387175 x0 x1 x2 x3 x4 x5 x6 x7 x8 x9 x10 x11 x13 (decide (v10 < v9.2.2.1)) x12 x13).bind fun z6 =>
   sumElim z6 (fun z7 =>
    some (.inr (.inl z7)))
    (fun z8 =>
    some (.inl (z8.1,z8.2.1,z8.2.2.1,z8.2.2.2.1,(),z8.2.2.2.2.2.1,(wrap .i64 (z8.2.2.2.2.2.2.1 + 1)),())))
   else none
  else
   bif (v9.1 == 3) then
    bif (decide (0≤v9.2.1) && decide (v9.2.1 < (x10.length:Int))) then
    (x10[v9.2.1.toNat]?).bind fun v11 =>
    (gdl_8387175 x0 x1 x2 x3 x4 x5 x6 x7 x8 x9 x10 x11 x13 (v11 != 1) x12 x13).bind fun z9 =>
    sumElim z9 (fun z10 =>
     some (.inr (.inl z10)))
     (fun z11 =>
     some (.inl (z11.1,z11.2.1,z11.2.2.1,z11.2.2.2.1,(),z11.2.2.2.2.2.1,(wrap .i64 (z11.2.2.2.2.2.2.1 + 1)),())))
    else none
   else
    bif (v9.1 == 5) then
     bif (decide (0≤v9.2.1) && decide (v9.2.1 < (x9.length:Int))) then
     (x9[v9.2.1.toNat]?).bind fun v12 =>
     bif (decide (0≤v9.2.1) && decide (v9.2.1 < (x9.length:Int))) then
     (x9[v9.2.1.toNat]?).bind fun v13 =>
     (gdl_8387175 x0 x1 x2 x3 x4 x5 x6 x7 x8 x9 x10 x11 x13 (decide ((bif decide ((wrap .i64 (0 - v13)) > v12) then (wrap .i64 (0 - v13)) else v12) < v9.2.2.1)) x12 x13).bind fun z12 =>
     sumElim z12 (fun z13 =>
      some (.inr (.inl z13)))
      (fun z14 =>
      some (.inl (z14.1,z14.2.1,z14.2.2.1,z14.2.2.2.1,(),z14.2.2.2.2.2.1,(wrap .i64 (z14.2.2.2.2.2.2.1 + 1)),())))
     else none
     else none
    else
     bif (v9.1 == 1) then
      bif (decide (0≤v9.2.1) && decide (v9.2.1 < (x10.length:Int))) then
      (x10[v9.2.1.toNat]?).bind fun v14 =>
      (bif decide (v14 ≥ v9.2.2.2.1) then (bif (decide (0≤x13) && decide (x13 < (x11.length:Int))) then ((x11[x13.toNat]?).bind fun v15 => some (v15 == (-1))) else none) else some false).bind fun b3 =>
      (bif b3 then some true else (bif (decide (0≤v9.2.1) && decide (v9.2.1 < (x10.length:Int))) then ((x10[v9.2.1.toNat]?).bind fun v16 => ((bif decide (v16 < v9.2.2.2.1) then (bif (decide (0≤x13) && decide (x13 < (x11.length:Int))) then ((x11[x13.toNat]?).bind fun v17 => some (v17 == 1)) else none) else some false).bind fun b4 => some b4)) else none)).bind fun b5 =>
      bif b5 then
       some (.inr (.inl (false,())))
      else
       some (.inl ((x0,x1,x2,x3,x4,x5,x6,x7,()),(x8,x9,()),x10,x11,(),x12,(wrap .i64 (x13 + 1)),()))
      else none
     else
      some (.inl ((x0,x1,x2,x3,x4,x5,x6,x7,()),(x8,x9,()),x10,x11,(),x12,(wrap .i64 (x13 + 1)),()))
  else none
 else
  some (.inr (.inr ()))
def gdl_32762F (x:((List (Int×Bool)×List Y2×List (Int×Bool×Bool×List (Int×Int))×List Y14×List Y4×List Y6×List Y26×List Int×Unit)×Y9×List Int×List Int×Unit×Int×Int×Unit)):=gdl_32762r x.1.1 x.1.2.1 x.1.2.2.1 x.1.2.2.2.1 x.1.2.2.2.2.1 x.1.2.2.2.2.2.1 x.1.2.2.2.2.2.2.1 x.1.2.2.2.2.2.2.2.1 x.2.1.1 x.2.1.2.1 x.2.2.1 x.2.2.2.1 x.2.2.2.2.2.1 x.2.2.2.2.2.2.1
def gdl_32762 (x0:List (Int×Bool)) (x1:List Y2) (x2:List (Int×Bool×Bool×List (Int×Int))) (x3:List Y14) (x4:List Y4) (x5:List Y6) (x6:List Y26) (x7 x8 x9 x10 x11:List Int) (x12 x13:Int):=loopL gdl_32762F ((x0,x1,x2,x3,x4,x5,x6,x7,()),(x8,x9,()),x10,x11,(),x12,x13,())
def gdl (x0:List Int):Option (Bool×Unit) :=
 (gaa x0).bind fun y6 =>
 (gaw y6.1.1 y6.1.2.1).bind fun y7 =>
 (gbg y7.1.1.1 y7.1.1.2.1 y7.1.1.2.2.1 y7.1.1.2.2.2.1 y7.1.2.1.1 y7.1.2.1.2.1 y7.1.2.2.1.1 y7.1.2.2.1.2.1).bind fun y8 =>
 bif (y8.1 != 0) then
  some (false,())
 else
  (gbz y7.1.1.1 y7.1.1.2.1 y7.1.1.2.2.1 y7.1.1.2.2.2.1 y7.1.2.1.1 y7.1.2.1.2.1).bind fun y9 =>
  bif (y9.1.2.1 != 0) then
   some (false,())
  else
   bif (decide (0≤(y7.1.1.2.2.2.2.1.length:Int)) && (decide ((y7.1.1.2.2.2.2.1.length:Int)≤(y7.1.1.2.2.2.2.1.length:Int)) && decide ((y7.1.1.2.2.2.2.1.length:Int) * ((8:Nat):Int)≤((140737488355328:Nat):Int)))) then
   (gdl_4090 y7.2.1.1 y7.2.1.2.1 y7.1.1.1 y7.1.1.2.1 y7.1.1.2.2.1 y7.1.1.2.2.2.1 y7.1.1.2.2.2.2.1 y7.1.1.2.2.2.2.2.1 y7.1.1.2.2.2.2.2.2.1 y7.1.1.2.2.2.2.2.2.2.1 y7.1.2.2.1.1 y7.1.2.2.1.2.1 y9.1.1 (List.replicate (y7.1.1.2.2.2.2.1.length:Int).toNat (0:Int)) ([]:List Y13) (y7.1.1.2.2.2.2.1.length:Int) 0).bind fun z15 =>
   (gcb z15.1.1 z15.1.2.1 z15.2.1.1 z15.2.1.2.1 z15.2.1.2.2.1 z15.2.1.2.2.2.1 z15.2.1.2.2.2.2.1 z15.2.1.2.2.2.2.2.1 z15.2.1.2.2.2.2.2.2.1 z15.2.1.2.2.2.2.2.2.2.1).bind fun y10 =>
   (gab y10.2.1.1 y10.2.1.2.1 9).bind fun y11 =>
   (gdc z15.2.1.1 z15.2.1.2.1 z15.2.1.2.2.1 z15.2.1.2.2.2.1 z15.2.1.2.2.2.2.1 z15.2.1.2.2.2.2.2.1 z15.2.1.2.2.2.2.2.2.1 z15.2.1.2.2.2.2.2.2.2.1 z15.2.2.2.2.2.1 y10.1 z15.2.2.2.1 (wrap .i64 (9 + y11.1))).bind fun y12 =>
   (bif (y12.1.2.2.1 != 0) then some true else some ((y12.1.1.length:Int) != (z15.2.1.2.2.2.2.2.1.length:Int))).bind fun b6 =>
   bif b6 then
    some (false,())
   else
    (gdl_32762 z15.2.1.1 z15.2.1.2.1 z15.2.1.2.2.1 z15.2.1.2.2.2.1 z15.2.1.2.2.2.2.1 z15.2.1.2.2.2.2.2.1 z15.2.1.2.2.2.2.2.2.1 z15.2.1.2.2.2.2.2.2.2.1 z15.2.2.1.1 z15.2.2.1.2.1 z15.2.2.2.2.1 y12.1.1 (z15.2.1.2.2.2.2.2.1.length:Int) 0).bind fun z16 =>
    sumElim z16 (fun z17 =>
     some (z17.1,()))
     (fun z18 =>
     (gdk).bind fun y13 =>
     some (y13.1,()))
   else none
end
end Go.V
