/-
  The data that the functions make which CutoffWider reaches: plain Lean, printed by a program.
  gaa = draw_New
  gab = draw_Next
  gac = draw_One
  gad = draw_Range
  gae = draw_Road
  gaf = draw_Curve
  gag = draw_Door_h4
  gah = draw_equipped_soooo
  gai = ref08_Rest
  gaj = ref05_Floor
  gak = ref05_Ceil
  gal = ref07_Inner
  gam = ref07_Along
  gan = ref07_State
  gao = draw_fit_soooobbbb
  gap = draw_doubts
  gaq = draw_Made_h14
  gar = ref05_Stately
  gas = draw_Sensor
  gat = draw_Level
  gau = draw_Cond
  gav = draw_Rule
  gaw = draw_Site
  gax = ref05_in
  gay = ref05_Check
  gaz = ref05_Nothing
  gba = ref05_Gassy
  gbb = ref05_Value
  gbc = law20_said
  gbd = ref17_Begin
  gbe = law20_watched
  gbf = draw_Spans
  gbg = plan_spanIn
  gbh = plan_Check
  gbi = fan_Check
  gbj = door_Check
  gbk = branch_Check
  gbl = sensor_in
  gbm = sensor_Check
  gbn = cutoff_has
  gbo = cutoff_checkSensors
  gbp = level_Check
  gbq = cutoff_checkCond
  gbr = rule_part
  gbs = rule_right
  gbt = rule_Check
  gbu = cutoff_checkZone
  gbv = cutoff_Check
  gbw = sensor_Nothing
  gbx = window_plain
  gby = window_At
  gbz = cutoff_Known
  gca = window_Above
  gcb = level_Step
  gcc = cutoff_over
  gcd = cutoff_stopped
  gce = airflow_fed
  gcf = airflow_Fed
  gcg = cutoff_Values
  gch = draw_New_n
  gci = draw_Next_o
  gcj = draw_Range_o
  gck = draw_Easy_o
  gcl = rule_Eval
  gcm = cutoff_Cuts
  gcn = ref01_Ints
  gco = law20_awake
  gcp = law20_CutoffWider
-/
import Derived.Test.YtedhbknblmfgeaaVCutoffWiderc
set_option linter.all false
namespace Go.V
open Go
noncomputable section
abbrev Y1 : Type := Int × Int × Int × Int × Bool × Bool × Int × Int × Int × Int
abbrev Y2 : Type := Int × Int × Int × Int × Int × Int × Int × Int × Unit
abbrev Y3 : Type := Int × Int × Int × Int × Int × Int × Int × Int
abbrev Y4 : Type := Int × Int × Int × Int × Int × Int × Unit
abbrev Y5 : Type := Int × Int × List Int × Int × Int × Unit
abbrev Y6 : Type := Int × Int × Int × Int × Int × Int
abbrev Y7 : Type := List Int × List Int × Int × Unit
abbrev Y8 : Type := Int × Int × Int × Bool × Bool
abbrev Y9 : Type := Int × Int × List Int × Unit
abbrev Y10 : Type := List Int × Int × Int × Unit
abbrev Y11 : Type := List Int × List Int × Unit
abbrev Y12 : Type := Bool × Int × Int × Unit
abbrev Y13 : Type := Int × Int × Bool × Unit
abbrev Y14 : Type := List Int × Int × Unit
abbrev Y15 : Type := Int × Int × Int × Int
abbrev Y16 : Type := Int × Int × Unit
abbrev Y17 : Type := Bool × Int × Int
abbrev Y18 : Type := List Int × Unit
abbrev Y19 : Type := List Int × List Y17 × List Int × List Y17 × Int × Int × Unit
abbrev Y20 : Type := List Int × List Int × List Y15 × Int × Int × Unit
abbrev Y21 : Type := Y14 × List Y15 × List Y3 × Int × Int × Unit
abbrev Y22 : Type := Y14 × List Y15 × List Y15 × Int × Unit
abbrev Y23 : Type := List Y15 × Int × List Int × Int × Unit
abbrev Y24 : Type := Y14 × Y11 × Y11 × Y11 × Int × Unit
abbrev Y25 : Type := Y14 × List Y17 × Int × Int × Unit
abbrev Y26 : Type := Int × List Y15 × Int × Int × Unit
abbrev Y27 : Type := Y14 × List Y15 × List Y15 × Unit
abbrev Y28 : Type := Int × List Y1 × Int × Int × Unit
abbrev Y29 : Type := List Int × List Y17 × Int × Unit
abbrev Y30 : Type := List Y8 × List Int × Int × Unit
abbrev Y31 : Type := Y14 × Y11 × Y11 × Y11 × Unit
abbrev Y32 : Type := Y9 × Y16 × Y16 × Int × Unit
abbrev Y33 : Type := Y14 × Y9 × Y9 × Int × Unit
abbrev Y34 : Type := List Int × List Y17 × Unit
abbrev Y35 : Type := List Y17 × List Int × Unit
abbrev Y36 : Type := Y14 × Y11 × Y11 × Unit
abbrev Y37 : Type := Y14 × Int × Int × Unit
abbrev Y38 : Type := Y14 × List Y15 × Unit
abbrev Y39 : Type := Y14 × List Y17 × Unit
abbrev Y40 : Type := List Y15 × Int × Unit
abbrev Y41 : Type := Y14 × Y9 × Y9 × Unit
abbrev Y42 : Type := Y16 × Y16 × Unit
abbrev Y43 : Type := Y14 × Y4 × Unit
def gaa (x0 : List Int) : Option (Y14 × Unit) :=
 bif (decide (0 ≤ (bif decide (300 < ((x0.length : Nat) : Int)) then 300 else ((x0.length : Nat) : Int))) && decide ((bif decide (300 < ((x0.length : Nat) : Int)) then 300 else ((x0.length : Nat) : Int)) ≤ ((x0.length : Nat) : Int))) then
 some (((x0).take ((bif decide (300 < ((x0.length : Nat) : Int)) then 300 else ((x0.length : Nat) : Int)).toNat), 0, ()), ())
 else none
def gab_63 (x0 : List Int) (x1 : Int) (x2 : Int) (x3 : Int) : Option (Y14 × Int × Unit) :=
 bif (!decide (x2 = 0)) then
 some ((x0, x1, ()), (Int.tmod x3 x2), ())
 else none
def gab (x0 : List Int) (x1 : Int) (x2 : Int) : Option (Int × (Y14 × Unit)) :=
 (bif decide (x2 < 1) then some true else some (decide (x1 ≥ ((x0.length : Nat) : Int)))).bind fun b0 =>
 bif b0 then
  some (0, ((x0, x1, ()), ()))
 else
  (idx x0 (IntKind.wrap .i64 ((IntKind.wrap .i64 (x1 + 1)) - 1))).bind fun v0 =>
  (bif decide (x2 > 256) then some (decide ((IntKind.wrap .i64 (x1 + 1)) < ((x0.length : Nat) : Int))) else some false).bind fun b1 =>
  bif b1 then
   (idx x0 (IntKind.wrap .i64 (x1 + 1))).bind fun v1 =>
   (gab_63 x0 (IntKind.wrap .i64 ((IntKind.wrap .i64 (x1 + 1)) + 1)) x2 (IntKind.wrap .i64 ((IntKind.wrap .i64 ((IntKind.wrap .i64 v0) * 256)) + (IntKind.wrap .i64 v1)))).bind fun z0 =>
   some (z0.2.1, (z0.1, ()))
  else
   (gab_63 x0 (IntKind.wrap .i64 (x1 + 1)) x2 (IntKind.wrap .i64 v0)).bind fun z1 =>
   some (z1.2.1, (z1.1, ()))
def gac (x0 : List Int) (x1 : Int) (x2 : Int) : Option (Bool × (Y14 × Unit)) :=
 (gab x0 x1 x2).bind fun y0 =>
 some ((y0.1 == (IntKind.wrap .i64 (x2 - 1))), y0.2)
def gad (x0 : List Int) (x1 : Int) (x2 : Int) (x3 : Int) : Option (Int × (Y14 × Unit)) :=
 (gab x0 x1 (IntKind.wrap .i64 ((IntKind.wrap .i64 (x3 - x2)) + 1))).bind fun y0 =>
 some ((IntKind.wrap .i64 (x2 + y0.1)), y0.2)
def gae (x0 : List Int) (x1 : Int) (x2 : Int) (x3 : Int) : Option ((Int × Int × Int × Int × Bool × Bool × Int × Int × Int × Int × Unit) × (Y14 × Unit)) :=
 (gad x0 x1 1 400).bind fun y0 =>
 (gad y0.2.1.1 y0.2.1.2.1 4 30).bind fun y1 =>
 (gab y1.2.1.1 y1.2.1.2.1 4).bind fun y2 =>
 (gad y2.2.1.1 y2.2.1.2.1 1 20).bind fun y3 =>
 (gab y3.2.1.1 y3.2.1.2.1 3).bind fun y4 =>
 (gad y4.2.1.1 y4.2.1.2.1 (-300) 300).bind fun y5 =>
 (gab y5.2.1.1 y5.2.1.2.1 20).bind fun y6 =>
 some ((x2, x3, y0.1, y1.1, decide (y2.1 > 0), false, y3.1, (IntKind.wrap .i64 (y3.1 + y4.1)), y5.1, (IntKind.wrap .i64 (y5.1 + y6.1)), ()), y6.2)
def gaf_58r (x0 : List Int) (x1 : Int) (x2 : List (Int × Int)) (x3 : Int) : Option ((Y14 × List (Int × Int) × Int × Unit) ⊕ (Y14 × List (Int × Int) × Unit)) :=
 bif decide (x3 > 0) then
  bif (decide (0 ≤ (IntKind.wrap .i64 (((x2.length : Nat) : Int) - 1))) && decide ((IntKind.wrap .i64 (((x2.length : Nat) : Int) - 1)) < ((x2.length : Nat) : Int))) then
  (x2[(IntKind.wrap .i64 (((x2.length : Nat) : Int) - 1)).toNat]?).bind fun v0 =>
  (gad x0 x1 1 40).bind fun y0 =>
  (gab y0.2.1.1 y0.2.1.2.1 900).bind fun y1 =>
  bif decide ((x2.length + 1) * 16 ≤ 140737488355328) then
  some (.inl (y1.2.1, (x2 ++ ([((IntKind.wrap .i64 (v0.1 + y0.1)), (bif decide ((IntKind.wrap .i64 (v0.2 - y1.1)) > 0) then (IntKind.wrap .i64 (v0.2 - y1.1)) else 0))] : List (Int × Int))), (IntKind.wrap .i64 (x3 - 1)), ()))
  else none
  else none
 else
  some (.inr ((x0, x1, ()), x2, ()))
def gaf_58F (x : (Y14 × List (Int × Int) × Int × Unit)) : Option ((Y14 × List (Int × Int) × Int × Unit) ⊕ (Y14 × List (Int × Int) × Unit)) := gaf_58r x.1.1 x.1.2.1 x.2.1 x.2.2.1
def gaf_58 (x0 : List Int) (x1 : Int) (x2 : List (Int × Int)) (x3 : Int) : Option (Y14 × List (Int × Int) × Unit) := loopL gaf_58F ((x0, x1, ()), x2, x3, ())
def gaf (x0 : List Int) (x1 : Int) : Option (List (Int × Int) × (Y14 × Unit)) :=
 (gad x0 x1 (-20) 10).bind fun y2 =>
 (gad y2.2.1.1 y2.2.1.2.1 500 3000).bind fun y3 =>
 (gab y3.2.1.1 y3.2.1.2.1 4).bind fun y4 =>
 (gaf_58 y4.2.1.1 y4.2.1.2.1 ([(y2.1, y3.1)] : List (Int × Int)) y4.1).bind fun z0 =>
 some (z0.2.1, (z0.1, ()))
def gag_58r (x0 : List Int) (x1 : Int) (x2 : Int) (x3 : Int) (x4 : List Int) (x5 : Int) (x6 : Int) (x7 : List Int) (x8 : Int) : Option (Y33 ⊕ Y41) :=
 bif decide (x8 > 0) then
  bif (decide (0 ≤ (IntKind.wrap .i64 (((x7.length : Nat) : Int) - 1))) && decide ((IntKind.wrap .i64 (((x7.length : Nat) : Int) - 1)) < ((x7.length : Nat) : Int))) then
  (x7[(IntKind.wrap .i64 (((x7.length : Nat) : Int) - 1)).toNat]?).bind fun v0 =>
  (gad x0 x1 1 60).bind fun y0 =>
  bif decide ((x7.length + 1) * 8 ≤ 140737488355328) then
  some (.inl (y0.2.1, (x2, x3, x4, ()), (x5, x6, (x7 ++ ([(bif decide ((IntKind.wrap .i64 (v0 - y0.1)) > 0) then (IntKind.wrap .i64 (v0 - y0.1)) else 0)] : List Int)), ()), (IntKind.wrap .i64 (x8 - 1)), ()))
  else none
  else none
 else
  some (.inr ((x0, x1, ()), (x2, x3, x4, ()), (x5, x6, x7, ()), ()))
def gag_58F (x : Y33) : Option (Y33 ⊕ Y41) := gag_58r x.1.1 x.1.2.1 x.2.1.1 x.2.1.2.1 x.2.1.2.2.1 x.2.2.1.1 x.2.2.1.2.1 x.2.2.1.2.2.1 x.2.2.2.1
def gag_58 (x0 : List Int) (x1 : Int) (x2 : Int) (x3 : Int) (x4 : List Int) (x5 : Int) (x6 : Int) (x7 : List Int) (x8 : Int) : Option Y41 := loopL gag_58F ((x0, x1, ()), (x2, x3, x4, ()), (x5, x6, x7, ()), x8, ())
def gag (x0 : List Int) (x1 : Int) (x2 : Int) : Option (Y9 × (Y14 × Unit)) :=
 (gad x0 x1 200 900).bind fun y1 =>
 (gad y1.2.1.1 y1.2.1.2.1 1 3).bind fun y2 =>
 (gag_58 y2.2.1.1 y2.2.1.2.1 0 0 ([] : List Int) x2 (-1) ([y1.1] : List Int) y2.1).bind fun z0 =>
 some (z0.2.2.1, (z0.1, ()))
def gah_122r (x0 : List Int) (x1 : Int) (x2 : List (Int × Bool)) (x3 : List Y1) (x4 : List (Int × Bool × Bool × (List (Int × Int)))) (x5 : List (Int × Int × (List Int))) (x6 : List Int) (x7 : List Int) (x8 : List Int) (x9 : List Int) (x10 : Int) (x11 : Int) : Option ((Y14 × (List (Int × Bool) × List Y1 × List (Int × Bool × Bool × (List (Int × Int))) × List (Int × Int × (List Int)) × Unit) × Y11 × Y11 × Int × Int × Unit) ⊕ (Y14 × (List (Int × Bool) × List Y1 × List (Int × Bool × Bool × (List (Int × Int))) × List (Int × Int × (List Int)) × Unit) × Y11 × Y11 × Int × Unit)) :=
 (bif decide (x11 > 0) then some (decide (x10 > 0)) else some false).bind fun b0 =>
 bif b0 then
  (gab x0 x1 x10).bind fun y0 =>
  (gac y0.2.1.1 y0.2.1.2.1 3).bind fun y1 =>
  (gac y1.2.1.1 y1.2.1.2.1 3).bind fun y2 =>
  (gaf y2.2.1.1 y2.2.1.2.1).bind fun y3 =>
  bif decide ((x4.length + 1) * 40 ≤ 140737488355328) then
  (gab y3.2.1.1 y3.2.1.2.1 3).bind fun y4 =>
  bif decide ((x8.length + 1) * 8 ≤ 140737488355328) then
  some (.inl (y4.2.1, (x2, x3, (x4 ++ ([(y0.1, y1.1, y2.1, y3.1)] : List (Int × Bool × Bool × (List (Int × Int))))), x5, ()), (x6, x7, ()), ((x8 ++ ([y4.1] : List Int)), x9, ()), x10, (IntKind.wrap .i64 (x11 - 1)), ()))
  else none
  else none
 else
  some (.inr ((x0, x1, ()), (x2, x3, x4, x5, ()), (x6, x7, ()), (x8, x9, ()), x10, ()))
def gah_122F (x : (Y14 × (List (Int × Bool) × List Y1 × List (Int × Bool × Bool × (List (Int × Int))) × List (Int × Int × (List Int)) × Unit) × Y11 × Y11 × Int × Int × Unit)) : Option ((Y14 × (List (Int × Bool) × List Y1 × List (Int × Bool × Bool × (List (Int × Int))) × List (Int × Int × (List Int)) × Unit) × Y11 × Y11 × Int × Int × Unit) ⊕ (Y14 × (List (Int × Bool) × List Y1 × List (Int × Bool × Bool × (List (Int × Int))) × List (Int × Int × (List Int)) × Unit) × Y11 × Y11 × Int × Unit)) := gah_122r x.1.1 x.1.2.1 x.2.1.1 x.2.1.2.1 x.2.1.2.2.1 x.2.1.2.2.2.1 x.2.2.1.1 x.2.2.1.2.1 x.2.2.2.1.1 x.2.2.2.1.2.1 x.2.2.2.2.1 x.2.2.2.2.2.1
def gah_122 (x0 : List Int) (x1 : Int) (x2 : List (Int × Bool)) (x3 : List Y1) (x4 : List (Int × Bool × Bool × (List (Int × Int)))) (x5 : List (Int × Int × (List Int))) (x6 : List Int) (x7 : List Int) (x8 : List Int) (x9 : List Int) (x10 : Int) (x11 : Int) : Option (Y14 × (List (Int × Bool) × List Y1 × List (Int × Bool × Bool × (List (Int × Int))) × List (Int × Int × (List Int)) × Unit) × Y11 × Y11 × Int × Unit) := loopL gah_122F ((x0, x1, ()), (x2, x3, x4, x5, ()), (x6, x7, ()), (x8, x9, ()), x10, x11, ())
def gah_250r (x0 : List Int) (x1 : Int) (x2 : List (Int × Bool)) (x3 : List Y1) (x4 : List (Int × Bool × Bool × (List (Int × Int)))) (x5 : List (Int × Int × (List Int))) (x6 : List Int) (x7 : List Int) (x8 : List Int) (x9 : List Int) (x10 : Int) (x11 : Int) : Option ((Y14 × (List (Int × Bool) × List Y1 × List (Int × Bool × Bool × (List (Int × Int))) × List (Int × Int × (List Int)) × Unit) × Y11 × Y11 × Int × Int × Unit) ⊕ (Y14 × (List (Int × Bool) × List Y1 × List (Int × Bool × Bool × (List (Int × Int))) × List (Int × Int × (List Int)) × Unit) × Y11 × Y11 × Unit)) :=
 (bif decide (x11 > 0) then some (decide (x10 > 0)) else some false).bind fun b1 =>
 bif b1 then
  (gab x0 x1 x10).bind fun y5 =>
  (gag y5.2.1.1 y5.2.1.2.1 y5.1).bind fun y6 =>
  bif decide ((x5.length + 1) * 40 ≤ 140737488355328) then
  (gab y6.2.1.1 y6.2.1.2.1 ((y6.1.2.2.1.length : Nat) : Int)).bind fun y7 =>
  bif decide ((x9.length + 1) * 8 ≤ 140737488355328) then
  some (.inl (y7.2.1, (x2, x3, x4, (x5 ++ ([(y6.1.1, y6.1.2.1, y6.1.2.2.1)] : List (Int × Int × (List Int)))), ()), (x6, x7, ()), (x8, (x9 ++ ([y7.1] : List Int)), ()), x10, (IntKind.wrap .i64 (x11 - 1)), ()))
  else none
  else none
 else
  some (.inr ((x0, x1, ()), (x2, x3, x4, x5, ()), (x6, x7, ()), (x8, x9, ()), ()))
def gah_250F (x : (Y14 × (List (Int × Bool) × List Y1 × List (Int × Bool × Bool × (List (Int × Int))) × List (Int × Int × (List Int)) × Unit) × Y11 × Y11 × Int × Int × Unit)) : Option ((Y14 × (List (Int × Bool) × List Y1 × List (Int × Bool × Bool × (List (Int × Int))) × List (Int × Int × (List Int)) × Unit) × Y11 × Y11 × Int × Int × Unit) ⊕ (Y14 × (List (Int × Bool) × List Y1 × List (Int × Bool × Bool × (List (Int × Int))) × List (Int × Int × (List Int)) × Unit) × Y11 × Y11 × Unit)) := gah_250r x.1.1 x.1.2.1 x.2.1.1 x.2.1.2.1 x.2.1.2.2.1 x.2.1.2.2.2.1 x.2.2.1.1 x.2.2.1.2.1 x.2.2.2.1.1 x.2.2.2.1.2.1 x.2.2.2.2.1 x.2.2.2.2.2.1
def gah_250 (x0 : List Int) (x1 : Int) (x2 : List (Int × Bool)) (x3 : List Y1) (x4 : List (Int × Bool × Bool × (List (Int × Int)))) (x5 : List (Int × Int × (List Int))) (x6 : List Int) (x7 : List Int) (x8 : List Int) (x9 : List Int) (x10 : Int) (x11 : Int) : Option (Y14 × (List (Int × Bool) × List Y1 × List (Int × Bool × Bool × (List (Int × Int))) × List (Int × Int × (List Int)) × Unit) × Y11 × Y11 × Unit) := loopL gah_250F ((x0, x1, ()), (x2, x3, x4, x5, ()), (x6, x7, ()), (x8, x9, ()), x10, x11, ())
def gah (x0 : List Int) (x1 : Int) (x2 : List (Int × Bool)) (x3 : List Y1) (x4 : List (Int × Bool × Bool × (List (Int × Int)))) (x5 : List (Int × Int × (List Int))) : Option (Y11 × (Y14 × (List (Int × Bool) × List Y1 × List (Int × Bool × Bool × (List (Int × Int))) × List (Int × Int × (List Int)) × Unit) × Unit)) :=
 (gab x0 x1 3).bind fun y8 =>
 (gah_122 y8.2.1.1 y8.2.1.2.1 x2 x3 x4 x5 ([] : List Int) ([] : List Int) ([] : List Int) ([] : List Int) ((x3.length : Nat) : Int) y8.1).bind fun z0 =>
 (gab z0.1.1 z0.1.2.1 3).bind fun y9 =>
 (gah_250 y9.2.1.1 y9.2.1.2.1 z0.2.1.1 z0.2.1.2.1 z0.2.1.2.2.1 z0.2.1.2.2.2.1 z0.2.2.1.1 z0.2.2.1.2.1 z0.2.2.2.1.1 z0.2.2.2.1.2.1 z0.2.2.2.2.1 y9.1).bind fun z1 =>
 some (z1.2.2.2.1, (z1.1, z1.2.1, ()))
def gai_250r (x0 : Int) (x1 : Int) (x2 : List Int) (x3 : Int) (x4 : Int) (x5 : Int) (x6 : Int) (x7 : Int) : Option (Y32 ⊕ Y42) :=
 bif decide (x7 < ((x2.length : Nat) : Int)) then
  (idx x2 x7).bind fun v0 =>
  (idx x2 x7).bind fun v1 =>
  some (.inl ((x0, x1, x2, ()), (x3, x4, ()), ((bif decide (v0 < x5) then v0 else x5), (bif decide (v1 > x6) then v1 else x6), ()), (IntKind.wrap .i64 (x7 + 1)), ()))
 else
  some (.inr ((x3, x4, ()), (x5, x6, ()), ()))
def gai_250F (x : Y32) : Option (Y32 ⊕ Y42) := gai_250r x.1.1 x.1.2.1 x.1.2.2.1 x.2.1.1 x.2.1.2.1 x.2.2.1.1 x.2.2.1.2.1 x.2.2.2.1
def gai_250 (x0 : Int) (x1 : Int) (x2 : List Int) (x3 : Int) (x4 : Int) (x5 : Int) (x6 : Int) (x7 : Int) : Option Y42 := loopL gai_250F ((x0, x1, x2, ()), (x3, x4, ()), (x5, x6, ()), x7, ())
def gai (x0 : Int) (x1 : Int) (x2 : List Int) (x3 : Int) : Option (Y16 × Unit) :=
 (bif (((x2.length : Nat) : Int) == 0) then some true else some (decide (x3 < (-1)))).bind fun b0 =>
 (bif b0 then some true else some (decide (x3 ≥ ((x2.length : Nat) : Int)))).bind fun b1 =>
 bif b1 then
  some ((0, 0, ()), ())
 else
  bif decide (x3 ≥ 0) then
   (idx x2 x3).bind fun v2 =>
   (idx x2 x3).bind fun v3 =>
   some ((v2, v3, ()), ())
  else
   (idx x2 0).bind fun v4 =>
   (idx x2 0).bind fun v5 =>
   (gai_250 x0 x1 x2 0 0 v4 v5 0).bind fun z0 =>
   some (z0.2.1, ())
def gaj (x0 : Int) (x1 : Int) : Option (Int × Unit) :=
 bif (!decide (x1 = 0)) then
 bif (!decide (x1 = 0)) then
 bif decide ((Int.tmod x0 x1) < 0) then
  some ((IntKind.wrap .i64 ((IntKind.wrap .i64 (Int.tdiv x0 x1)) - 1)), ())
 else
  some ((IntKind.wrap .i64 (Int.tdiv x0 x1)), ())
 else none
 else none
def gak (x0 : Int) (x1 : Int) : Option (Int × Unit) :=
 (gaj (IntKind.wrap .i64 (0 - x0)) x1).bind fun y0 =>
 some ((IntKind.wrap .i64 (0 - y0.1)), ())
def gal_252r (x0 : Int) (x1 : Int) (x2 : Bool) (x3 : Bool) (x4 : List (Int × Int)) (x5 : Int) (x6 : Int) (x7 : Int) : Option ((Int × (Int × Bool × Bool × List (Int × Int) × Unit) × Y16 × Int × Unit) ⊕ (Int × (Int × Bool × Bool × List (Int × Int) × Unit) × Y16 × Int × Unit)) :=
 (idx x4 (IntKind.wrap .i64 (x7 + 1))).bind fun v0 =>
 bif decide (v0.1 ≤ x0) then
  some (.inl (x0, (x1, x2, x3, x4, ()), (x5, x6, ()), (IntKind.wrap .i64 (x7 + 1)), ()))
 else
  some (.inr (x0, (x1, x2, x3, x4, ()), (x5, x6, ()), x7, ()))
def gal_252F (x : (Int × (Int × Bool × Bool × List (Int × Int) × Unit) × Y16 × Int × Unit)) : Option ((Int × (Int × Bool × Bool × List (Int × Int) × Unit) × Y16 × Int × Unit) ⊕ (Int × (Int × Bool × Bool × List (Int × Int) × Unit) × Y16 × Int × Unit)) := gal_252r x.1 x.2.1.1 x.2.1.2.1 x.2.1.2.2.1 x.2.1.2.2.2.1 x.2.2.1.1 x.2.2.1.2.1 x.2.2.2.1
def gal_252 (x0 : Int) (x1 : Int) (x2 : Bool) (x3 : Bool) (x4 : List (Int × Int)) (x5 : Int) (x6 : Int) (x7 : Int) : Option (Int × (Int × Bool × Bool × List (Int × Int) × Unit) × Y16 × Int × Unit) := loopL gal_252F (x0, (x1, x2, x3, x4, ()), (x5, x6, ()), x7, ())
def gal (x0 : Int) (x1 : Bool) (x2 : Bool) (x3 : List (Int × Int)) (x4 : Int) : Option (Y16 × Unit) :=
 (idx x3 0).bind fun v1 =>
 bif decide (x4 ≤ v1.1) then
  (idx x3 0).bind fun v2 =>
  (idx x3 0).bind fun v3 =>
  some ((v2.2, v3.2, ()), ())
 else
  (idx x3 (IntKind.wrap .i64 (((x3.length : Nat) : Int) - 1))).bind fun v4 =>
  bif decide (x4 ≥ v4.1) then
   (idx x3 (IntKind.wrap .i64 (((x3.length : Nat) : Int) - 1))).bind fun v5 =>
   (idx x3 (IntKind.wrap .i64 (((x3.length : Nat) : Int) - 1))).bind fun v6 =>
   some ((v5.2, v6.2, ()), ())
  else
   (gal_252 x4 x0 x1 x2 x3 0 0 0).bind fun z0 =>
   (idx z0.2.1.2.2.2.1 z0.2.2.2.1).bind fun v7 =>
   (idx z0.2.1.2.2.2.1 (IntKind.wrap .i64 (z0.2.2.2.1 + 1))).bind fun v8 =>
   (gaj (IntKind.wrap .i64 ((IntKind.wrap .i64 (v8.2 - v7.2)) * (IntKind.wrap .i64 (z0.1 - v7.1)))) (IntKind.wrap .i64 (v8.1 - v7.1))).bind fun y0 =>
   (gak (IntKind.wrap .i64 ((IntKind.wrap .i64 (v8.2 - v7.2)) * (IntKind.wrap .i64 (z0.1 - v7.1)))) (IntKind.wrap .i64 (v8.1 - v7.1))).bind fun y1 =>
   some (((IntKind.wrap .i64 (v7.2 + y0.1)), (IntKind.wrap .i64 (v7.2 + y1.1)), ()), ())
def gam (x0 : Int) (x1 : Bool) (x2 : Bool) (x3 : List (Int × Int)) (x4 : Bool) (x5 : Int) : Option (Y16 × Unit) :=
 bif x4 then
  (gal x0 x1 x2 x3 (IntKind.wrap .i64 (0 - x5))).bind fun y0 =>
  some (((IntKind.wrap .i64 (0 - y0.1.2.1)), (IntKind.wrap .i64 (0 - y0.1.1)), ()), ())
 else
  (gal x0 x1 x2 x3 x5).bind fun y1 =>
  some (y1.1, ())
def gan (x0 : Int) (x1 : Bool) (x2 : Bool) (x3 : List (Int × Int)) (x4 : Int) (x5 : Int) : Option (Y16 × Unit) :=
 bif (x4 == 0) then
  some ((0, 0, ()), ())
 else
  bif (x4 == 1) then
   (gam x0 x1 x2 x3 x1 x5).bind fun y0 =>
   some (y0.1, ())
  else
   bif (x4 == 2) then
    (gam x0 x1 x2 x3 (!x1) x5).bind fun y1 =>
    some (y1.1, ())
   else
    (gam x0 x1 x2 x3 false x5).bind fun y2 =>
    (gam x0 x1 x2 x3 true x5).bind fun y3 =>
    some (((bif decide (0 < (bif decide (y3.1.1 < y2.1.1) then y3.1.1 else y2.1.1)) then 0 else (bif decide (y3.1.1 < y2.1.1) then y3.1.1 else y2.1.1)), (bif decide (0 > (bif decide (y3.1.2.1 > y2.1.2.1) then y3.1.2.1 else y2.1.2.1)) then 0 else (bif decide (y3.1.2.1 > y2.1.2.1) then y3.1.2.1 else y2.1.2.1)), ()), ())
def gao_14650r (x0 : List Int) (x1 : Int) (x2 : List (Int × Bool)) (x3 : List Y1) (x4 : List (Int × Bool × Bool × (List (Int × Int)))) (x5 : List (Int × Int × (List Int))) (x6 : List Int) (x7 : List Int) (x8 : List Int) (x9 : List Int) (x10 : Int) (x11 : Nat) (x12 : Int) (x13 : Int) (x14 : Int) : Option ((Y14 × (List (Int × Bool) × List Y1 × List (Int × Bool × Bool × (List (Int × Int))) × List (Int × Int × (List Int)) × Unit) × Y11 × Y11 × Int × Nat × Int × Int × Int × Unit) ⊕ (Y14 × (List (Int × Bool) × List Y1 × List (Int × Bool × Bool × (List (Int × Int))) × List (Int × Int × (List Int)) × Unit) × Y11 × Y11 × Int × Nat × Int × Int × Unit)) :=
 bif decide (x14 < ((x5.length : Nat) : Int)) then
  bif (decide (0 ≤ x14) && decide (x14 < ((x5.length : Nat) : Int))) then
  (x5[x14.toNat]?).bind fun v0 =>
  bif (v0.1 == x10) then
   bif (decide (0 ≤ x14) && decide (x14 < ((x5.length : Nat) : Int))) then
   (x5[x14.toNat]?).bind fun v1 =>
   (idx x7 x14).bind fun v2 =>
   (gai v1.1 v1.2.1 v1.2.2 v2).bind fun y0 =>
   some (.inl ((x0, x1, ()), (x2, x3, x4, x5, ()), (x6, x7, ()), (x8, x9, ()), x10, x11, x12, (IntKind.wrap .i64 (x13 + y0.1.1)), (IntKind.wrap .i64 (x14 + 1)), ()))
   else none
  else
   some (.inl ((x0, x1, ()), (x2, x3, x4, x5, ()), (x6, x7, ()), (x8, x9, ()), x10, x11, x12, x13, (IntKind.wrap .i64 (x14 + 1)), ()))
  else none
 else
  some (.inr ((x0, x1, ()), (x2, x3, x4, x5, ()), (x6, x7, ()), (x8, x9, ()), x10, x11, x12, x13, ()))
def gao_14650F (x : (Y14 × (List (Int × Bool) × List Y1 × List (Int × Bool × Bool × (List (Int × Int))) × List (Int × Int × (List Int)) × Unit) × Y11 × Y11 × Int × Nat × Int × Int × Int × Unit)) : Option ((Y14 × (List (Int × Bool) × List Y1 × List (Int × Bool × Bool × (List (Int × Int))) × List (Int × Int × (List Int)) × Unit) × Y11 × Y11 × Int × Nat × Int × Int × Int × Unit) ⊕ (Y14 × (List (Int × Bool) × List Y1 × List (Int × Bool × Bool × (List (Int × Int))) × List (Int × Int × (List Int)) × Unit) × Y11 × Y11 × Int × Nat × Int × Int × Unit)) := gao_14650r x.1.1 x.1.2.1 x.2.1.1 x.2.1.2.1 x.2.1.2.2.1 x.2.1.2.2.2.1 x.2.2.1.1 x.2.2.1.2.1 x.2.2.2.1.1 x.2.2.2.1.2.1 x.2.2.2.2.1 x.2.2.2.2.2.1 x.2.2.2.2.2.2.1 x.2.2.2.2.2.2.2.1 x.2.2.2.2.2.2.2.2.1
def gao_14650 (x0 : List Int) (x1 : Int) (x2 : List (Int × Bool)) (x3 : List Y1) (x4 : List (Int × Bool × Bool × (List (Int × Int)))) (x5 : List (Int × Int × (List Int))) (x6 : List Int) (x7 : List Int) (x8 : List Int) (x9 : List Int) (x10 : Int) (x11 : Nat) (x12 : Int) (x13 : Int) (x14 : Int) : Option (Y14 × (List (Int × Bool) × List Y1 × List (Int × Bool × Bool × (List (Int × Int))) × List (Int × Int × (List Int)) × Unit) × Y11 × Y11 × Int × Nat × Int × Int × Unit) := loopL gao_14650F ((x0, x1, ()), (x2, x3, x4, x5, ()), (x6, x7, ()), (x8, x9, ()), x10, x11, x12, x13, x14, ())
def gao_58618r (x0 : List Int) (x1 : Int) (x2 : List (Int × Bool)) (x3 : List Y1) (x4 : List (Int × Bool × Bool × (List (Int × Int)))) (x5 : List (Int × Int × (List Int))) (x6 : List Int) (x7 : List Int) (x8 : List Int) (x9 : List Int) (x10 : Int) (x11 : Nat) (x12 : Int) (x13 : Int) (x14 : Int) : Option ((Y14 × (List (Int × Bool) × List Y1 × List (Int × Bool × Bool × (List (Int × Int))) × List (Int × Int × (List Int)) × Unit) × Y11 × Y11 × Int × Nat × Int × Int × Int × Unit) ⊕ (Y14 × (List (Int × Bool) × List Y1 × List (Int × Bool × Bool × (List (Int × Int))) × List (Int × Int × (List Int)) × Unit) × Y11 × Y11 × Int × Nat × Int × Unit)) :=
 bif decide (x14 < ((x4.length : Nat) : Int)) then
  bif (decide (0 ≤ x14) && decide (x14 < ((x4.length : Nat) : Int))) then
  (x4[x14.toNat]?).bind fun v3 =>
  bif (v3.1 == x10) then
   bif (decide (0 ≤ x14) && decide (x14 < ((x4.length : Nat) : Int))) then
   (x4[x14.toNat]?).bind fun v4 =>
   (idx x6 x14).bind fun v5 =>
   (gan v4.1 v4.2.1 v4.2.2.1 v4.2.2.2 v5 x12).bind fun y1 =>
   some (.inl ((x0, x1, ()), (x2, x3, x4, x5, ()), (x6, x7, ()), (x8, x9, ()), x10, x11, x12, (IntKind.wrap .i64 (x13 - y1.1.1)), (IntKind.wrap .i64 (x14 + 1)), ()))
   else none
  else
   some (.inl ((x0, x1, ()), (x2, x3, x4, x5, ()), (x6, x7, ()), (x8, x9, ()), x10, x11, x12, x13, (IntKind.wrap .i64 (x14 + 1)), ()))
  else none
 else
  some (.inr ((x0, x1, ()), (x2, x3, x4, x5, ()), (x6, x7, ()), (x8, x9, ()), x10, x11, x13, ()))
def gao_58618F (x : (Y14 × (List (Int × Bool) × List Y1 × List (Int × Bool × Bool × (List (Int × Int))) × List (Int × Int × (List Int)) × Unit) × Y11 × Y11 × Int × Nat × Int × Int × Int × Unit)) : Option ((Y14 × (List (Int × Bool) × List Y1 × List (Int × Bool × Bool × (List (Int × Int))) × List (Int × Int × (List Int)) × Unit) × Y11 × Y11 × Int × Nat × Int × Int × Int × Unit) ⊕ (Y14 × (List (Int × Bool) × List Y1 × List (Int × Bool × Bool × (List (Int × Int))) × List (Int × Int × (List Int)) × Unit) × Y11 × Y11 × Int × Nat × Int × Unit)) := gao_58618r x.1.1 x.1.2.1 x.2.1.1 x.2.1.2.1 x.2.1.2.2.1 x.2.1.2.2.2.1 x.2.2.1.1 x.2.2.1.2.1 x.2.2.2.1.1 x.2.2.2.1.2.1 x.2.2.2.2.1 x.2.2.2.2.2.1 x.2.2.2.2.2.2.1 x.2.2.2.2.2.2.2.1 x.2.2.2.2.2.2.2.2.1
def gao_58618 (x0 : List Int) (x1 : Int) (x2 : List (Int × Bool)) (x3 : List Y1) (x4 : List (Int × Bool × Bool × (List (Int × Int)))) (x5 : List (Int × Int × (List Int))) (x6 : List Int) (x7 : List Int) (x8 : List Int) (x9 : List Int) (x10 : Int) (x11 : Nat) (x12 : Int) (x13 : Int) (x14 : Int) : Option (Y14 × (List (Int × Bool) × List Y1 × List (Int × Bool × Bool × (List (Int × Int))) × List (Int × Int × (List Int)) × Unit) × Y11 × Y11 × Int × Nat × Int × Unit) := loopL gao_58618F ((x0, x1, ()), (x2, x3, x4, x5, ()), (x6, x7, ()), (x8, x9, ()), x10, x11, x12, x13, x14, ())
def gao_14r (x0 : List Int) (x1 : Int) (x2 : List (Int × Bool)) (x3 : List Y1) (x4 : List (Int × Bool × Bool × (List (Int × Int)))) (x5 : List (Int × Int × (List Int))) (x6 : List Int) (x7 : List Int) (x8 : List Int) (x9 : List Int) (x10 : Int) : Option ((Y14 × (List (Int × Bool) × List Y1 × List (Int × Bool × Bool × (List (Int × Int))) × List (Int × Int × (List Int)) × Unit) × Y11 × Y11 × Int × Unit) ⊕ (Y14 × (List (Int × Bool) × List Y1 × List (Int × Bool × Bool × (List (Int × Int))) × List (Int × Int × (List Int)) × Unit) × Unit)) :=
 bif decide (x10 < ((x3.length : Nat) : Int)) then
  bif (decide (0 ≤ x10) && decide (x10 < ((x3.length : Nat) : Int))) then
  (idx x9 x10).bind fun v6 =>
  (x3[x10.toNat]?).bind fun v7 =>
  (x3[x10.toNat]?).bind fun v8 =>
  (x3[x10.toNat]?).bind fun v9 =>
  (gab x0 x1 (IntKind.wrap .i64 ((IntKind.wrap .i64 (v8.2.2.2.2.2.2.2.1 - v9.2.2.2.2.2.2.1)) + 1))).bind fun y2 =>
  (gao_14650 y2.2.1.1 y2.2.1.2.1 x2 x3 x4 x5 x6 x7 x8 x9 x10 x10.toNat v6 (IntKind.wrap .i64 (v7.2.2.2.2.2.2.1 + y2.1)) 0).bind fun z0 =>
  (z0.2.1.2.1[z0.2.2.2.2.2.1]?).bind fun v10 =>
  (idx z0.2.2.2.1.1 v10.1).bind fun v11 =>
  (z0.2.1.2.1[z0.2.2.2.2.2.1]?).bind fun v12 =>
  (idx z0.2.2.2.1.1 v12.2.1).bind fun v13 =>
  (gao_58618 z0.1.1 z0.1.2.1 z0.2.1.1 z0.2.1.2.1 z0.2.1.2.2.1 z0.2.1.2.2.2.1 z0.2.2.1.1 z0.2.2.1.2.1 z0.2.2.2.1.1 z0.2.2.2.1.2.1 z0.2.2.2.2.1 z0.2.2.2.2.2.1 z0.2.2.2.2.2.2.1 (IntKind.wrap .i64 ((IntKind.wrap .i64 ((IntKind.wrap .i64 (z0.2.2.2.2.2.2.2.1 * (bif decide ((IntKind.wrap .i64 (0 - z0.2.2.2.2.2.2.1)) > z0.2.2.2.2.2.2.1) then (IntKind.wrap .i64 (0 - z0.2.2.2.2.2.2.1)) else z0.2.2.2.2.2.2.1))) * z0.2.2.2.2.2.2.1)) - (IntKind.wrap .i64 (v11 - v13)))) 0).bind fun z1 =>
  (gab z1.1.1 z1.1.2.1 30).bind fun y3 =>
  (gab y3.2.1.1 y3.2.1.2.1 30).bind fun y4 =>
  (z1.2.1.2.1[z1.2.2.2.2.2.1]?).bind fun v14 =>
  some (.inl (y4.2.1, (z1.2.1.1, (z1.2.1.2.1).set z1.2.2.2.2.2.1 (v14.1, v14.2.1, v14.2.2.1, v14.2.2.2.1, v14.2.2.2.2.1, v14.2.2.2.2.2.1, v14.2.2.2.2.2.2.1, v14.2.2.2.2.2.2.2.1, (IntKind.wrap .i64 (z1.2.2.2.2.2.2.1 - y3.1)), (IntKind.wrap .i64 (z1.2.2.2.2.2.2.1 + y4.1))), z1.2.1.2.2.1, z1.2.1.2.2.2.1, ()), z1.2.2.1, z1.2.2.2.1, (IntKind.wrap .i64 (z1.2.2.2.2.1 + 1)), ()))
  else none
 else
  some (.inr ((x0, x1, ()), (x2, x3, x4, x5, ()), ()))
def gao_14F (x : (Y14 × (List (Int × Bool) × List Y1 × List (Int × Bool × Bool × (List (Int × Int))) × List (Int × Int × (List Int)) × Unit) × Y11 × Y11 × Int × Unit)) : Option ((Y14 × (List (Int × Bool) × List Y1 × List (Int × Bool × Bool × (List (Int × Int))) × List (Int × Int × (List Int)) × Unit) × Y11 × Y11 × Int × Unit) ⊕ (Y14 × (List (Int × Bool) × List Y1 × List (Int × Bool × Bool × (List (Int × Int))) × List (Int × Int × (List Int)) × Unit) × Unit)) := gao_14r x.1.1 x.1.2.1 x.2.1.1 x.2.1.2.1 x.2.1.2.2.1 x.2.1.2.2.2.1 x.2.2.1.1 x.2.2.1.2.1 x.2.2.2.1.1 x.2.2.2.1.2.1 x.2.2.2.2.1
def gao_14 (x0 : List Int) (x1 : Int) (x2 : List (Int × Bool)) (x3 : List Y1) (x4 : List (Int × Bool × Bool × (List (Int × Int)))) (x5 : List (Int × Int × (List Int))) (x6 : List Int) (x7 : List Int) (x8 : List Int) (x9 : List Int) (x10 : Int) : Option (Y14 × (List (Int × Bool) × List Y1 × List (Int × Bool × Bool × (List (Int × Int))) × List (Int × Int × (List Int)) × Unit) × Unit) := loopL gao_14F ((x0, x1, ()), (x2, x3, x4, x5, ()), (x6, x7, ()), (x8, x9, ()), x10, ())
def gao (x0 : List Int) (x1 : Int) (x2 : List (Int × Bool)) (x3 : List Y1) (x4 : List (Int × Bool × Bool × (List (Int × Int)))) (x5 : List (Int × Int × (List Int))) (x6 : List Int) (x7 : List Int) (x8 : List Int) (x9 : List Int) : Option ((Unit) × (Y14 × (List (Int × Bool) × List Y1 × List (Int × Bool × Bool × (List (Int × Int))) × List (Int × Int × (List Int)) × Unit) × Unit)) :=
 (gao_14 x0 x1 x2 x3 x4 x5 x6 x7 x8 x9 0).bind fun z2 =>
 some ((), z2)
def gap_3731 (x0 : List Int) (x1 : Int) (x2 : List Int) (x3 : List Int) (x4 : List Int) (x5 : List Int) (x6 : List Int) (x7 : List Int) (x8 : Int) (x9 : Int) : Option Y24 :=
 bif decide ((x6.length + 1) * 8 ≤ 140737488355328) then
 some ((x0, x1, ()), (x2, x3, ()), (x4, x5, ()), ((x6 ++ ([x9] : List Int)), x7, ()), x8, ())
 else none
def gap_58r (x0 : List Int) (x1 : Int) (x2 : List Int) (x3 : List Int) (x4 : List Int) (x5 : List Int) (x6 : List Int) (x7 : List Int) (x8 : Int) : Option (Y24 ⊕ Y31) :=
 bif decide (x8 < ((x2.length : Nat) : Int)) then
  (idx x2 x8).bind fun v0 =>
  (gac x0 x1 5).bind fun y0 =>
  bif y0.1 then
   (gap_3731 y0.2.1.1 y0.2.1.2.1 x2 x3 x4 x5 x6 x7 x8 (-1)).bind fun z0 =>
   some (.inl (z0.1, z0.2.1, z0.2.2.1, z0.2.2.2.1, (IntKind.wrap .i64 (z0.2.2.2.2.1 + 1)), ()))
  else
   (gap_3731 y0.2.1.1 y0.2.1.2.1 x2 x3 x4 x5 x6 x7 x8 v0).bind fun z1 =>
   some (.inl (z1.1, z1.2.1, z1.2.2.1, z1.2.2.2.1, (IntKind.wrap .i64 (z1.2.2.2.2.1 + 1)), ()))
 else
  some (.inr ((x0, x1, ()), (x2, x3, ()), (x4, x5, ()), (x6, x7, ()), ()))
def gap_58F (x : Y24) : Option (Y24 ⊕ Y31) := gap_58r x.1.1 x.1.2.1 x.2.1.1 x.2.1.2.1 x.2.2.1.1 x.2.2.1.2.1 x.2.2.2.1.1 x.2.2.2.1.2.1 x.2.2.2.2.1
def gap_58 (x0 : List Int) (x1 : Int) (x2 : List Int) (x3 : List Int) (x4 : List Int) (x5 : List Int) (x6 : List Int) (x7 : List Int) (x8 : Int) : Option Y31 := loopL gap_58F ((x0, x1, ()), (x2, x3, ()), (x4, x5, ()), (x6, x7, ()), x8, ())
def gap_7827 (x0 : List Int) (x1 : Int) (x2 : List Int) (x3 : List Int) (x4 : List Int) (x5 : List Int) (x6 : List Int) (x7 : List Int) (x8 : Int) (x9 : Int) : Option Y24 :=
 bif decide ((x7.length + 1) * 8 ≤ 140737488355328) then
 some ((x0, x1, ()), (x2, x3, ()), (x4, x5, ()), (x6, (x7 ++ ([x9] : List Int)), ()), x8, ())
 else none
def gap_122r (x0 : List Int) (x1 : Int) (x2 : List Int) (x3 : List Int) (x4 : List Int) (x5 : List Int) (x6 : List Int) (x7 : List Int) (x8 : Int) : Option (Y24 ⊕ Y36) :=
 bif decide (x8 < ((x3.length : Nat) : Int)) then
  (idx x3 x8).bind fun v1 =>
  (gac x0 x1 5).bind fun y1 =>
  bif y1.1 then
   (gap_7827 y1.2.1.1 y1.2.1.2.1 x2 x3 x4 x5 x6 x7 x8 (-1)).bind fun z2 =>
   some (.inl (z2.1, z2.2.1, z2.2.2.1, z2.2.2.2.1, (IntKind.wrap .i64 (z2.2.2.2.2.1 + 1)), ()))
  else
   (gap_7827 y1.2.1.1 y1.2.1.2.1 x2 x3 x4 x5 x6 x7 x8 v1).bind fun z3 =>
   some (.inl (z3.1, z3.2.1, z3.2.2.1, z3.2.2.2.1, (IntKind.wrap .i64 (z3.2.2.2.2.1 + 1)), ()))
 else
  some (.inr ((x0, x1, ()), (x4, x5, ()), (x6, x7, ()), ()))
def gap_122F (x : Y24) : Option (Y24 ⊕ Y36) := gap_122r x.1.1 x.1.2.1 x.2.1.1 x.2.1.2.1 x.2.2.1.1 x.2.2.1.2.1 x.2.2.2.1.1 x.2.2.2.1.2.1 x.2.2.2.2.1
def gap_122 (x0 : List Int) (x1 : Int) (x2 : List Int) (x3 : List Int) (x4 : List Int) (x5 : List Int) (x6 : List Int) (x7 : List Int) (x8 : Int) : Option Y36 := loopL gap_122F ((x0, x1, ()), (x2, x3, ()), (x4, x5, ()), (x6, x7, ()), x8, ())
def gap (x0 : List Int) (x1 : Int) (x2 : List (Int × Bool)) (x3 : List Y1) (x4 : List (Int × Bool × Bool × (List (Int × Int)))) (x5 : List (Int × Int × (List Int))) (x6 : List Int) (x7 : List Int) : Option (Y11 × (Y14 × Unit)) :=
 (gap_58 x0 x1 x6 x7 ([] : List Int) ([] : List Int) ([] : List Int) ([] : List Int) 0).bind fun z4 =>
 (gap_122 z4.1.1 z4.1.2.1 z4.2.1.1 z4.2.1.2.1 z4.2.2.1.1 z4.2.2.1.2.1 z4.2.2.2.1.1 z4.2.2.2.1.2.1 0).bind fun z5 =>
 some (z5.2.2.1, (z5.1, ()))
def gaq_250r (x0 : List Int) (x1 : Int) (x2 : List (Int × Bool)) (x3 : List Y1) (x4 : List (Int × Bool × Bool × (List (Int × Int)))) (x5 : List (Int × Int × (List Int))) (x6 : List Int) (x7 : List Int) (x8 : List Int) (x9 : List Int) (x10 : List (Int × Bool)) (x11 : List Y1) (x12 : List (Int × Bool × Bool × (List (Int × Int)))) (x13 : List (Int × Int × (List Int))) (x14 : Int) (x15 : Int) : Option ((Y14 × (List (Int × Bool) × List Y1 × List (Int × Bool × Bool × (List (Int × Int))) × List (Int × Int × (List Int)) × Unit) × Y11 × Y11 × (List (Int × Bool) × List Y1 × List (Int × Bool × Bool × (List (Int × Int))) × List (Int × Int × (List Int)) × Unit) × Int × Int × Unit) ⊕ (Y14 × (List (Int × Bool) × List Y1 × List (Int × Bool × Bool × (List (Int × Int))) × List (Int × Int × (List Int)) × Unit) × Y11 × Y11 × (List (Int × Bool) × List Y1 × List (Int × Bool × Bool × (List (Int × Int))) × List (Int × Int × (List Int)) × Unit) × Int × Unit)) :=
 bif decide (x15 > 0) then
  (gab x0 x1 100).bind fun y0 =>
  bif decide ((x10.length + 1) * 16 ≤ 140737488355328) then
  some (.inl (y0.2.1, (x2, x3, x4, x5, ()), (x6, x7, ()), (x8, x9, ()), ((x10 ++ ([((IntKind.wrap .i64 (0 - y0.1)), false)] : List (Int × Bool))), x11, x12, x13, ()), x14, (IntKind.wrap .i64 (x15 - 1)), ()))
  else none
 else
  some (.inr ((x0, x1, ()), (x2, x3, x4, x5, ()), (x6, x7, ()), (x8, x9, ()), (x10, x11, x12, x13, ()), x14, ()))
def gaq_250F (x : (Y14 × (List (Int × Bool) × List Y1 × List (Int × Bool × Bool × (List (Int × Int))) × List (Int × Int × (List Int)) × Unit) × Y11 × Y11 × (List (Int × Bool) × List Y1 × List (Int × Bool × Bool × (List (Int × Int))) × List (Int × Int × (List Int)) × Unit) × Int × Int × Unit)) : Option ((Y14 × (List (Int × Bool) × List Y1 × List (Int × Bool × Bool × (List (Int × Int))) × List (Int × Int × (List Int)) × Unit) × Y11 × Y11 × (List (Int × Bool) × List Y1 × List (Int × Bool × Bool × (List (Int × Int))) × List (Int × Int × (List Int)) × Unit) × Int × Int × Unit) ⊕ (Y14 × (List (Int × Bool) × List Y1 × List (Int × Bool × Bool × (List (Int × Int))) × List (Int × Int × (List Int)) × Unit) × Y11 × Y11 × (List (Int × Bool) × List Y1 × List (Int × Bool × Bool × (List (Int × Int))) × List (Int × Int × (List Int)) × Unit) × Int × Unit)) := gaq_250r x.1.1 x.1.2.1 x.2.1.1 x.2.1.2.1 x.2.1.2.2.1 x.2.1.2.2.2.1 x.2.2.1.1 x.2.2.1.2.1 x.2.2.2.1.1 x.2.2.2.1.2.1 x.2.2.2.2.1.1 x.2.2.2.2.1.2.1 x.2.2.2.2.1.2.2.1 x.2.2.2.2.1.2.2.2.1 x.2.2.2.2.2.1 x.2.2.2.2.2.2.1
def gaq_250 (x0 : List Int) (x1 : Int) (x2 : List (Int × Bool)) (x3 : List Y1) (x4 : List (Int × Bool × Bool × (List (Int × Int)))) (x5 : List (Int × Int × (List Int))) (x6 : List Int) (x7 : List Int) (x8 : List Int) (x9 : List Int) (x10 : List (Int × Bool)) (x11 : List Y1) (x12 : List (Int × Bool × Bool × (List (Int × Int)))) (x13 : List (Int × Int × (List Int))) (x14 : Int) (x15 : Int) : Option (Y14 × (List (Int × Bool) × List Y1 × List (Int × Bool × Bool × (List (Int × Int))) × List (Int × Int × (List Int)) × Unit) × Y11 × Y11 × (List (Int × Bool) × List Y1 × List (Int × Bool × Bool × (List (Int × Int))) × List (Int × Int × (List Int)) × Unit) × Int × Unit) := loopL gaq_250F ((x0, x1, ()), (x2, x3, x4, x5, ()), (x6, x7, ()), (x8, x9, ()), (x10, x11, x12, x13, ()), x14, x15, ())
def gaq_2042r (x0 : List Int) (x1 : Int) (x2 : List (Int × Bool)) (x3 : List Y1) (x4 : List (Int × Bool × Bool × (List (Int × Int)))) (x5 : List (Int × Int × (List Int))) (x6 : List Int) (x7 : List Int) (x8 : List Int) (x9 : List Int) (x10 : List (Int × Bool)) (x11 : List Y1) (x12 : List (Int × Bool × Bool × (List (Int × Int)))) (x13 : List (Int × Int × (List Int))) (x14 : Int) (x15 : Int) (x16 : List Int) (x17 : List Int) (x18 : Int) : Option ((Y14 × (List (Int × Bool) × List Y1 × List (Int × Bool × Bool × (List (Int × Int))) × List (Int × Int × (List Int)) × Unit) × Y11 × Y11 × (List (Int × Bool) × List Y1 × List (Int × Bool × Bool × (List (Int × Int))) × List (Int × Int × (List Int)) × Unit) × Int × Int × Y11 × Int × Unit) ⊕ (Y14 × (List (Int × Bool) × List Y1 × List (Int × Bool × Bool × (List (Int × Int))) × List (Int × Int × (List Int)) × Unit) × Y11 × Y11 × (List (Int × Bool) × List Y1 × List (Int × Bool × Bool × (List (Int × Int))) × List (Int × Int × (List Int)) × Unit) × Int × Int × Y11 × Unit)) :=
 bif decide (x18 < x15) then
  (gad x0 x1 (-4000) 4000).bind fun y1 =>
  bif (decide (0 ≤ x18) && decide (x18 < ((x16.length : Nat) : Int))) then
  (x16[x18.toNat]?).bind fun v0 =>
  some (.inl (y1.2.1, (x2, x3, x4, x5, ()), (x6, x7, ()), (x8, x9, ()), (x10, x11, x12, x13, ()), x14, x15, ((x16).set x18.toNat y1.1, x17, ()), (IntKind.wrap .i64 (x18 + 1)), ()))
  else none
 else
  some (.inr ((x0, x1, ()), (x2, x3, x4, x5, ()), (x6, x7, ()), (x8, x9, ()), (x10, x11, x12, x13, ()), x14, x15, (x16, x17, ()), ()))
def gaq_2042F (x : (Y14 × (List (Int × Bool) × List Y1 × List (Int × Bool × Bool × (List (Int × Int))) × List (Int × Int × (List Int)) × Unit) × Y11 × Y11 × (List (Int × Bool) × List Y1 × List (Int × Bool × Bool × (List (Int × Int))) × List (Int × Int × (List Int)) × Unit) × Int × Int × Y11 × Int × Unit)) : Option ((Y14 × (List (Int × Bool) × List Y1 × List (Int × Bool × Bool × (List (Int × Int))) × List (Int × Int × (List Int)) × Unit) × Y11 × Y11 × (List (Int × Bool) × List Y1 × List (Int × Bool × Bool × (List (Int × Int))) × List (Int × Int × (List Int)) × Unit) × Int × Int × Y11 × Int × Unit) ⊕ (Y14 × (List (Int × Bool) × List Y1 × List (Int × Bool × Bool × (List (Int × Int))) × List (Int × Int × (List Int)) × Unit) × Y11 × Y11 × (List (Int × Bool) × List Y1 × List (Int × Bool × Bool × (List (Int × Int))) × List (Int × Int × (List Int)) × Unit) × Int × Int × Y11 × Unit)) := gaq_2042r x.1.1 x.1.2.1 x.2.1.1 x.2.1.2.1 x.2.1.2.2.1 x.2.1.2.2.2.1 x.2.2.1.1 x.2.2.1.2.1 x.2.2.2.1.1 x.2.2.2.1.2.1 x.2.2.2.2.1.1 x.2.2.2.2.1.2.1 x.2.2.2.2.1.2.2.1 x.2.2.2.2.1.2.2.2.1 x.2.2.2.2.2.1 x.2.2.2.2.2.2.1 x.2.2.2.2.2.2.2.1.1 x.2.2.2.2.2.2.2.1.2.1 x.2.2.2.2.2.2.2.2.1
def gaq_2042 (x0 : List Int) (x1 : Int) (x2 : List (Int × Bool)) (x3 : List Y1) (x4 : List (Int × Bool × Bool × (List (Int × Int)))) (x5 : List (Int × Int × (List Int))) (x6 : List Int) (x7 : List Int) (x8 : List Int) (x9 : List Int) (x10 : List (Int × Bool)) (x11 : List Y1) (x12 : List (Int × Bool × Bool × (List (Int × Int)))) (x13 : List (Int × Int × (List Int))) (x14 : Int) (x15 : Int) (x16 : List Int) (x17 : List Int) (x18 : Int) : Option (Y14 × (List (Int × Bool) × List Y1 × List (Int × Bool × Bool × (List (Int × Int))) × List (Int × Int × (List Int)) × Unit) × Y11 × Y11 × (List (Int × Bool) × List Y1 × List (Int × Bool × Bool × (List (Int × Int))) × List (Int × Int × (List Int)) × Unit) × Int × Int × Y11 × Unit) := loopL gaq_2042F ((x0, x1, ()), (x2, x3, x4, x5, ()), (x6, x7, ()), (x8, x9, ()), (x10, x11, x12, x13, ()), x14, x15, (x16, x17, ()), x18, ())
def gaq_16766111 (x0 : List Int) (x1 : Int) (x2 : List (Int × Bool)) (x3 : List Y1) (x4 : List (Int × Bool × Bool × (List (Int × Int)))) (x5 : List (Int × Int × (List Int))) (x6 : List Int) (x7 : List Int) (x8 : List Int) (x9 : List Int) (x10 : List (Int × Bool)) (x11 : List Y1) (x12 : List (Int × Bool × Bool × (List (Int × Int)))) (x13 : List (Int × Int × (List Int))) (x14 : Int) (x15 : Int) (x16 : List Int) (x17 : List Int) (x18 : List Int) (x19 : Int) (x20 : Int) (x21 : Int) (x22 : Int) (x23 : Int) (x24 : Bool) (x25 : Bool) (x26 : Int) (x27 : Int) (x28 : Int) (x29 : Int) (x30 : Int) : Option (Y14 × (List (Int × Bool) × List Y1 × List (Int × Bool × Bool × (List (Int × Int))) × List (Int × Int × (List Int)) × Unit) × Y11 × Y11 × (List (Int × Bool) × List Y1 × List (Int × Bool × Bool × (List (Int × Int))) × List (Int × Int × (List Int)) × Unit) × Int × Int × Y11 × List Int × Int × Unit) :=
 bif decide ((x11.length + 1) * 72 ≤ 140737488355328) then
 bif decide ((x17.length + 1) * 8 ≤ 140737488355328) then
 bif (decide (0 ≤ x20) && decide (x20 < ((x18.length : Nat) : Int))) then
 (x18[x20.toNat]?).bind fun v1 =>
 bif (decide (0 ≤ x20) && decide (x20 < ((x18.length : Nat) : Int))) then
 (x18[x20.toNat]?).bind fun v2 =>
 bif (decide (0 ≤ x21) && decide (x21 < ((((x18).set x20.toNat (IntKind.wrap .i64 (v1 + x30))).length : Nat) : Int))) then
 (((x18).set x20.toNat (IntKind.wrap .i64 (v1 + x30)))[x21.toNat]?).bind fun v3 =>
 bif (decide (0 ≤ x21) && decide (x21 < ((((x18).set x20.toNat (IntKind.wrap .i64 (v1 + x30))).length : Nat) : Int))) then
 (((x18).set x20.toNat (IntKind.wrap .i64 (v1 + x30)))[x21.toNat]?).bind fun v4 =>
 some ((x0, x1, ()), (x2, x3, x4, x5, ()), (x6, x7, ()), (x8, x9, ()), (x10, (x11 ++ ([(x20, x21, x22, x23, x24, x25, x26, x27, x28, x29)] : List Y1)), x12, x13, ()), x14, x15, (x16, (x17 ++ ([x30] : List Int)), ()), ((x18).set x20.toNat (IntKind.wrap .i64 (v1 + x30))).set x21.toNat (IntKind.wrap .i64 (v3 - x30)), x19, ())
 else none
 else none
 else none
 else none
 else none
 else none
def gaq_32746r (x0 : List Int) (x1 : Int) (x2 : List (Int × Bool)) (x3 : List Y1) (x4 : List (Int × Bool × Bool × (List (Int × Int)))) (x5 : List (Int × Int × (List Int))) (x6 : List Int) (x7 : List Int) (x8 : List Int) (x9 : List Int) (x10 : List (Int × Bool)) (x11 : List Y1) (x12 : List (Int × Bool × Bool × (List (Int × Int)))) (x13 : List (Int × Int × (List Int))) (x14 : Int) (x15 : Int) (x16 : List Int) (x17 : List Int) (x18 : List Int) (x19 : Int) : Option ((Y14 × (List (Int × Bool) × List Y1 × List (Int × Bool × Bool × (List (Int × Int))) × List (Int × Int × (List Int)) × Unit) × Y11 × Y11 × (List (Int × Bool) × List Y1 × List (Int × Bool × Bool × (List (Int × Int))) × List (Int × Int × (List Int)) × Unit) × Int × Int × Y11 × List Int × Int × Unit) ⊕ (Y14 × (List (Int × Bool) × List Y1 × List (Int × Bool × Bool × (List (Int × Int))) × List (Int × Int × (List Int)) × Unit) × Y11 × Y11 × (List (Int × Bool) × List Y1 × List (Int × Bool × Bool × (List (Int × Int))) × List (Int × Int × (List Int)) × Unit) × Int × Int × Y11 × List Int × Unit)) :=
 bif decide (x19 > 0) then
  (gab x0 x1 x15).bind fun y2 =>
  (gab y2.2.1.1 y2.2.1.2.1 (IntKind.wrap .i64 (x15 - 1))).bind fun y3 =>
  bif (!decide (x15 = 0)) then
  (gae y3.2.1.1 y3.2.1.2.1 y2.1 (Int.tmod (IntKind.wrap .i64 ((IntKind.wrap .i64 (y2.1 + 1)) + y3.1)) x15)).bind fun y4 =>
  (gac y4.2.1.1 y4.2.1.2.1 7).bind fun y5 =>
  (gad y5.2.1.1 y5.2.1.2.1 (-60) 60).bind fun y6 =>
  bif y5.1 then
   (gaq_16766111 y6.2.1.1 y6.2.1.2.1 x2 x3 x4 x5 x6 x7 x8 x9 x10 x11 x12 x13 x14 x15 x16 x17 x18 x19 y4.1.1 y4.1.2.1 y4.1.2.2.1 y4.1.2.2.2.1 y4.1.2.2.2.2.1 y5.1 y4.1.2.2.2.2.2.2.1 y4.1.2.2.2.2.2.2.2.1 y4.1.2.2.2.2.2.2.2.2.1 y4.1.2.2.2.2.2.2.2.2.2.1 0).bind fun z0 =>
   some (.inl (z0.1, z0.2.1, z0.2.2.1, z0.2.2.2.1, z0.2.2.2.2.1, z0.2.2.2.2.2.1, z0.2.2.2.2.2.2.1, z0.2.2.2.2.2.2.2.1, z0.2.2.2.2.2.2.2.2.1, (IntKind.wrap .i64 (z0.2.2.2.2.2.2.2.2.2.1 - 1)), ()))
  else
   (gaq_16766111 y6.2.1.1 y6.2.1.2.1 x2 x3 x4 x5 x6 x7 x8 x9 x10 x11 x12 x13 x14 x15 x16 x17 x18 x19 y4.1.1 y4.1.2.1 y4.1.2.2.1 y4.1.2.2.2.1 y4.1.2.2.2.2.1 y5.1 y4.1.2.2.2.2.2.2.1 y4.1.2.2.2.2.2.2.2.1 y4.1.2.2.2.2.2.2.2.2.1 y4.1.2.2.2.2.2.2.2.2.2.1 y6.1).bind fun z1 =>
   some (.inl (z1.1, z1.2.1, z1.2.2.1, z1.2.2.2.1, z1.2.2.2.2.1, z1.2.2.2.2.2.1, z1.2.2.2.2.2.2.1, z1.2.2.2.2.2.2.2.1, z1.2.2.2.2.2.2.2.2.1, (IntKind.wrap .i64 (z1.2.2.2.2.2.2.2.2.2.1 - 1)), ()))
  else none
 else
  some (.inr ((x0, x1, ()), (x2, x3, x4, x5, ()), (x6, x7, ()), (x8, x9, ()), (x10, x11, x12, x13, ()), x14, x15, (x16, x17, ()), x18, ()))
def gaq_32746F (x : (Y14 × (List (Int × Bool) × List Y1 × List (Int × Bool × Bool × (List (Int × Int))) × List (Int × Int × (List Int)) × Unit) × Y11 × Y11 × (List (Int × Bool) × List Y1 × List (Int × Bool × Bool × (List (Int × Int))) × List (Int × Int × (List Int)) × Unit) × Int × Int × Y11 × List Int × Int × Unit)) : Option ((Y14 × (List (Int × Bool) × List Y1 × List (Int × Bool × Bool × (List (Int × Int))) × List (Int × Int × (List Int)) × Unit) × Y11 × Y11 × (List (Int × Bool) × List Y1 × List (Int × Bool × Bool × (List (Int × Int))) × List (Int × Int × (List Int)) × Unit) × Int × Int × Y11 × List Int × Int × Unit) ⊕ (Y14 × (List (Int × Bool) × List Y1 × List (Int × Bool × Bool × (List (Int × Int))) × List (Int × Int × (List Int)) × Unit) × Y11 × Y11 × (List (Int × Bool) × List Y1 × List (Int × Bool × Bool × (List (Int × Int))) × List (Int × Int × (List Int)) × Unit) × Int × Int × Y11 × List Int × Unit)) := gaq_32746r x.1.1 x.1.2.1 x.2.1.1 x.2.1.2.1 x.2.1.2.2.1 x.2.1.2.2.2.1 x.2.2.1.1 x.2.2.1.2.1 x.2.2.2.1.1 x.2.2.2.1.2.1 x.2.2.2.2.1.1 x.2.2.2.2.1.2.1 x.2.2.2.2.1.2.2.1 x.2.2.2.2.1.2.2.2.1 x.2.2.2.2.2.1 x.2.2.2.2.2.2.1 x.2.2.2.2.2.2.2.1.1 x.2.2.2.2.2.2.2.1.2.1 x.2.2.2.2.2.2.2.2.1 x.2.2.2.2.2.2.2.2.2.1
def gaq_32746 (x0 : List Int) (x1 : Int) (x2 : List (Int × Bool)) (x3 : List Y1) (x4 : List (Int × Bool × Bool × (List (Int × Int)))) (x5 : List (Int × Int × (List Int))) (x6 : List Int) (x7 : List Int) (x8 : List Int) (x9 : List Int) (x10 : List (Int × Bool)) (x11 : List Y1) (x12 : List (Int × Bool × Bool × (List (Int × Int)))) (x13 : List (Int × Int × (List Int))) (x14 : Int) (x15 : Int) (x16 : List Int) (x17 : List Int) (x18 : List Int) (x19 : Int) : Option (Y14 × (List (Int × Bool) × List Y1 × List (Int × Bool × Bool × (List (Int × Int))) × List (Int × Int × (List Int)) × Unit) × Y11 × Y11 × (List (Int × Bool) × List Y1 × List (Int × Bool × Bool × (List (Int × Int))) × List (Int × Int × (List Int)) × Unit) × Int × Int × Y11 × List Int × Unit) := loopL gaq_32746F ((x0, x1, ()), (x2, x3, x4, x5, ()), (x6, x7, ()), (x8, x9, ()), (x10, x11, x12, x13, ()), x14, x15, (x16, x17, ()), x18, x19, ())
def gaq_1048211 (x0 : List Int) (x1 : Int) (x2 : List (Int × Bool)) (x3 : List Y1) (x4 : List (Int × Bool × Bool × (List (Int × Int)))) (x5 : List (Int × Int × (List Int))) (x6 : List Int) (x7 : List Int) (x8 : List Int) (x9 : List Int) (x10 : List (Int × Bool)) (x11 : List Y1) (x12 : List (Int × Bool × Bool × (List (Int × Int)))) (x13 : List (Int × Int × (List Int))) (x14 : Int) (x15 : Int) (x16 : List Int) (x17 : List Int) (x18 : List Int) (x19 : Int) (x20 : Int) (x21 : Int) (x22 : Int) (x23 : Int) (x24 : Bool) (x25 : Bool) (x26 : Int) (x27 : Int) (x28 : Int) (x29 : Int) (x30 : Int) : Option (Y14 × (List (Int × Bool) × List Y1 × List (Int × Bool × Bool × (List (Int × Int))) × List (Int × Int × (List Int)) × Unit) × Y11 × Y11 × (List (Int × Bool) × List Y1 × List (Int × Bool × Bool × (List (Int × Int))) × List (Int × Int × (List Int)) × Unit) × Int × Int × Y11 × List Int × Int × Unit) :=
 bif decide ((x11.length + 1) * 72 ≤ 140737488355328) then
 bif decide ((x17.length + 1) * 8 ≤ 140737488355328) then
 some ((x0, x1, ()), (x2, x3, x4, x5, ()), (x6, x7, ()), (x8, x9, ()), (x10, (x11 ++ ([(x20, x21, x22, x23, x24, x25, x26, x27, x28, x29)] : List Y1)), x12, x13, ()), x14, x15, (x16, (x17 ++ ([x30] : List Int)), ()), x18, x19, ())
 else none
 else none
def gaq_16378r (x0 : List Int) (x1 : Int) (x2 : List (Int × Bool)) (x3 : List Y1) (x4 : List (Int × Bool × Bool × (List (Int × Int)))) (x5 : List (Int × Int × (List Int))) (x6 : List Int) (x7 : List Int) (x8 : List Int) (x9 : List Int) (x10 : List (Int × Bool)) (x11 : List Y1) (x12 : List (Int × Bool × Bool × (List (Int × Int)))) (x13 : List (Int × Int × (List Int))) (x14 : Int) (x15 : Int) (x16 : List Int) (x17 : List Int) (x18 : List Int) (x19 : Int) : Option ((Y14 × (List (Int × Bool) × List Y1 × List (Int × Bool × Bool × (List (Int × Int))) × List (Int × Int × (List Int)) × Unit) × Y11 × Y11 × (List (Int × Bool) × List Y1 × List (Int × Bool × Bool × (List (Int × Int))) × List (Int × Int × (List Int)) × Unit) × Int × Int × Y11 × List Int × Int × Unit) ⊕ (Y14 × (List (Int × Bool) × List Y1 × List (Int × Bool × Bool × (List (Int × Int))) × List (Int × Int × (List Int)) × Unit) × Y11 × Y11 × (List (Int × Bool) × List Y1 × List (Int × Bool × Bool × (List (Int × Int))) × List (Int × Int × (List Int)) × Unit) × Y11 × Unit)) :=
 bif decide (x19 < x15) then
  (gab x0 x1 x14).bind fun y7 =>
  (gae y7.2.1.1 y7.2.1.2.1 x19 y7.1).bind fun y8 =>
  bif (decide (0 ≤ x19) && decide (x19 < ((x18.length : Nat) : Int))) then
  (x18[x19.toNat]?).bind fun v5 =>
  (gac y8.2.1.1 y8.2.1.2.1 2).bind fun y9 =>
  bif y9.1 then
   (gaq_1048211 y9.2.1.1 y9.2.1.2.1 x2 x3 x4 x5 x6 x7 x8 x9 x10 x11 x12 x13 x14 x15 x16 x17 x18 x19 y8.1.2.1 y8.1.1 y8.1.2.2.1 y8.1.2.2.2.1 y8.1.2.2.2.2.1 y8.1.2.2.2.2.2.1 y8.1.2.2.2.2.2.2.1 y8.1.2.2.2.2.2.2.2.1 y8.1.2.2.2.2.2.2.2.2.1 y8.1.2.2.2.2.2.2.2.2.2.1 (IntKind.wrap .i64 (0 - (IntKind.wrap .i64 (0 - v5))))).bind fun z2 =>
   some (.inl (z2.1, z2.2.1, z2.2.2.1, z2.2.2.2.1, z2.2.2.2.2.1, z2.2.2.2.2.2.1, z2.2.2.2.2.2.2.1, z2.2.2.2.2.2.2.2.1, z2.2.2.2.2.2.2.2.2.1, (IntKind.wrap .i64 (z2.2.2.2.2.2.2.2.2.2.1 + 1)), ()))
  else
   (gaq_1048211 y9.2.1.1 y9.2.1.2.1 x2 x3 x4 x5 x6 x7 x8 x9 x10 x11 x12 x13 x14 x15 x16 x17 x18 x19 y8.1.1 y8.1.2.1 y8.1.2.2.1 y8.1.2.2.2.1 y8.1.2.2.2.2.1 y8.1.2.2.2.2.2.1 y8.1.2.2.2.2.2.2.1 y8.1.2.2.2.2.2.2.2.1 y8.1.2.2.2.2.2.2.2.2.1 y8.1.2.2.2.2.2.2.2.2.2.1 (IntKind.wrap .i64 (0 - v5))).bind fun z3 =>
   some (.inl (z3.1, z3.2.1, z3.2.2.1, z3.2.2.2.1, z3.2.2.2.2.1, z3.2.2.2.2.2.1, z3.2.2.2.2.2.2.1, z3.2.2.2.2.2.2.2.1, z3.2.2.2.2.2.2.2.2.1, (IntKind.wrap .i64 (z3.2.2.2.2.2.2.2.2.2.1 + 1)), ()))
  else none
 else
  some (.inr ((x0, x1, ()), (x2, x3, x4, x5, ()), (x6, x7, ()), (x8, x9, ()), (x10, x11, x12, x13, ()), (x16, x17, ()), ()))
def gaq_16378F (x : (Y14 × (List (Int × Bool) × List Y1 × List (Int × Bool × Bool × (List (Int × Int))) × List (Int × Int × (List Int)) × Unit) × Y11 × Y11 × (List (Int × Bool) × List Y1 × List (Int × Bool × Bool × (List (Int × Int))) × List (Int × Int × (List Int)) × Unit) × Int × Int × Y11 × List Int × Int × Unit)) : Option ((Y14 × (List (Int × Bool) × List Y1 × List (Int × Bool × Bool × (List (Int × Int))) × List (Int × Int × (List Int)) × Unit) × Y11 × Y11 × (List (Int × Bool) × List Y1 × List (Int × Bool × Bool × (List (Int × Int))) × List (Int × Int × (List Int)) × Unit) × Int × Int × Y11 × List Int × Int × Unit) ⊕ (Y14 × (List (Int × Bool) × List Y1 × List (Int × Bool × Bool × (List (Int × Int))) × List (Int × Int × (List Int)) × Unit) × Y11 × Y11 × (List (Int × Bool) × List Y1 × List (Int × Bool × Bool × (List (Int × Int))) × List (Int × Int × (List Int)) × Unit) × Y11 × Unit)) := gaq_16378r x.1.1 x.1.2.1 x.2.1.1 x.2.1.2.1 x.2.1.2.2.1 x.2.1.2.2.2.1 x.2.2.1.1 x.2.2.1.2.1 x.2.2.2.1.1 x.2.2.2.1.2.1 x.2.2.2.2.1.1 x.2.2.2.2.1.2.1 x.2.2.2.2.1.2.2.1 x.2.2.2.2.1.2.2.2.1 x.2.2.2.2.2.1 x.2.2.2.2.2.2.1 x.2.2.2.2.2.2.2.1.1 x.2.2.2.2.2.2.2.1.2.1 x.2.2.2.2.2.2.2.2.1 x.2.2.2.2.2.2.2.2.2.1
def gaq_16378 (x0 : List Int) (x1 : Int) (x2 : List (Int × Bool)) (x3 : List Y1) (x4 : List (Int × Bool × Bool × (List (Int × Int)))) (x5 : List (Int × Int × (List Int))) (x6 : List Int) (x7 : List Int) (x8 : List Int) (x9 : List Int) (x10 : List (Int × Bool)) (x11 : List Y1) (x12 : List (Int × Bool × Bool × (List (Int × Int)))) (x13 : List (Int × Int × (List Int))) (x14 : Int) (x15 : Int) (x16 : List Int) (x17 : List Int) (x18 : List Int) (x19 : Int) : Option (Y14 × (List (Int × Bool) × List Y1 × List (Int × Bool × Bool × (List (Int × Int))) × List (Int × Int × (List Int)) × Unit) × Y11 × Y11 × (List (Int × Bool) × List Y1 × List (Int × Bool × Bool × (List (Int × Int))) × List (Int × Int × (List Int)) × Unit) × Y11 × Unit) := loopL gaq_16378F ((x0, x1, ()), (x2, x3, x4, x5, ()), (x6, x7, ()), (x8, x9, ()), (x10, x11, x12, x13, ()), x14, x15, (x16, x17, ()), x18, x19, ())
def gaq_2047 (x0 : List Int) (x1 : Int) (x2 : List (Int × Bool)) (x3 : List Y1) (x4 : List (Int × Bool × Bool × (List (Int × Int)))) (x5 : List (Int × Int × (List Int))) (x6 : List Int) (x7 : List Int) (x8 : List Int) (x9 : List Int) (x10 : List (Int × Bool)) (x11 : List Y1) (x12 : List (Int × Bool × Bool × (List (Int × Int)))) (x13 : List (Int × Int × (List Int))) (x14 : Int) (x15 : Int) (x16 : List Int) (x17 : List Int) (x18 : List Int) : Option (Y14 × (List (Int × Bool) × List Y1 × List (Int × Bool × Bool × (List (Int × Int))) × List (Int × Int × (List Int)) × Unit) × Y11 × Y11 × Unit) :=
 (gaq_16378 x0 x1 x2 x3 x4 x5 x6 x7 x8 x9 x10 x11 x12 x13 x14 x15 x16 x17 x18 x14).bind fun z4 =>
 (gah z4.1.1 z4.1.2.1 z4.2.2.2.2.1.1 z4.2.2.2.2.1.2.1 z4.2.2.2.2.1.2.2.1 z4.2.2.2.2.1.2.2.2.1).bind fun y10 =>
 (gao y10.2.1.1 y10.2.1.2.1 y10.2.2.1.1 y10.2.2.1.2.1 y10.2.2.1.2.2.1 y10.2.2.1.2.2.2.1 y10.1.1 y10.1.2.1 z4.2.2.2.2.2.1.1 z4.2.2.2.2.2.1.2.1).bind fun y11 =>
 (gap y11.2.1.1 y11.2.1.2.1 y11.2.2.1.1 y11.2.2.1.2.1 y11.2.2.1.2.2.1 y11.2.2.1.2.2.2.1 y10.1.1 y10.1.2.1).bind fun y12 =>
 some (y12.2.1, y11.2.2.1, y12.1, z4.2.2.2.2.2.1, ())
def gaq_15 (x0 : List Int) (x1 : Int) (x2 : List (Int × Bool)) (x3 : List Y1) (x4 : List (Int × Bool × Bool × (List (Int × Int)))) (x5 : List (Int × Int × (List Int))) (x6 : List Int) (x7 : List Int) (x8 : List Int) (x9 : List Int) (x10 : List (Int × Bool)) (x11 : List Y1) (x12 : List (Int × Bool × Bool × (List (Int × Int)))) (x13 : List (Int × Int × (List Int))) : Option (Y14 × (List (Int × Bool) × List Y1 × List (Int × Bool × Bool × (List (Int × Int))) × List (Int × Int × (List Int)) × Unit) × Y11 × Y11 × Unit) :=
 (gab x0 x1 5).bind fun y13 =>
 (gaq_250 y13.2.1.1 y13.2.1.2.1 x2 x3 x4 x5 x6 x7 x8 x9 x10 x11 x12 x13 ((x10.length : Nat) : Int) y13.1).bind fun z5 =>
 bif (decide (0 ≤ ((z5.2.2.2.2.1.1.length : Nat) : Int)) && (decide (((z5.2.2.2.2.1.1.length : Nat) : Int) ≤ ((z5.2.2.2.2.1.1.length : Nat) : Int)) && decide (((z5.2.2.2.2.1.1.length : Nat) : Int) * ((8 : Nat) : Int) ≤ ((140737488355328 : Nat) : Int)))) then
 (gaq_2042 z5.1.1 z5.1.2.1 z5.2.1.1 z5.2.1.2.1 z5.2.1.2.2.1 z5.2.1.2.2.2.1 z5.2.2.1.1 z5.2.2.1.2.1 z5.2.2.2.1.1 z5.2.2.2.1.2.1 z5.2.2.2.2.1.1 z5.2.2.2.2.1.2.1 z5.2.2.2.2.1.2.2.1 z5.2.2.2.2.1.2.2.2.1 z5.2.2.2.2.2.1 ((z5.2.2.2.2.1.1.length : Nat) : Int) (List.replicate ((z5.2.2.2.2.1.1.length : Nat) : Int).toNat (0 : Int)) ([] : List Int) z5.2.2.2.2.2.1).bind fun z6 =>
 bif (decide (0 ≤ z6.2.2.2.2.2.2.1) && (decide (z6.2.2.2.2.2.2.1 ≤ z6.2.2.2.2.2.2.1) && decide (z6.2.2.2.2.2.2.1 * ((8 : Nat) : Int) ≤ ((140737488355328 : Nat) : Int)))) then
 bif decide (z6.2.2.2.2.2.2.1 > 1) then
  (gab z6.1.1 z6.1.2.1 6).bind fun y14 =>
  (gaq_32746 y14.2.1.1 y14.2.1.2.1 z6.2.1.1 z6.2.1.2.1 z6.2.1.2.2.1 z6.2.1.2.2.2.1 z6.2.2.1.1 z6.2.2.1.2.1 z6.2.2.2.1.1 z6.2.2.2.1.2.1 z6.2.2.2.2.1.1 z6.2.2.2.2.1.2.1 z6.2.2.2.2.1.2.2.1 z6.2.2.2.2.1.2.2.2.1 z6.2.2.2.2.2.1 z6.2.2.2.2.2.2.1 z6.2.2.2.2.2.2.2.1.1 z6.2.2.2.2.2.2.2.1.2.1 (List.replicate z6.2.2.2.2.2.2.1.toNat (0 : Int)) y14.1).bind fun z7 =>
  (gaq_2047 z7.1.1 z7.1.2.1 z7.2.1.1 z7.2.1.2.1 z7.2.1.2.2.1 z7.2.1.2.2.2.1 z7.2.2.1.1 z7.2.2.1.2.1 z7.2.2.2.1.1 z7.2.2.2.1.2.1 z7.2.2.2.2.1.1 z7.2.2.2.2.1.2.1 z7.2.2.2.2.1.2.2.1 z7.2.2.2.2.1.2.2.2.1 z7.2.2.2.2.2.1 z7.2.2.2.2.2.2.1 z7.2.2.2.2.2.2.2.1.1 z7.2.2.2.2.2.2.2.1.2.1 z7.2.2.2.2.2.2.2.2.1).bind fun z8 =>
  some z8
 else
  (gaq_2047 z6.1.1 z6.1.2.1 z6.2.1.1 z6.2.1.2.1 z6.2.1.2.2.1 z6.2.1.2.2.2.1 z6.2.2.1.1 z6.2.2.1.2.1 z6.2.2.2.1.1 z6.2.2.2.1.2.1 z6.2.2.2.2.1.1 z6.2.2.2.2.1.2.1 z6.2.2.2.2.1.2.2.1 z6.2.2.2.2.1.2.2.2.1 z6.2.2.2.2.2.1 z6.2.2.2.2.2.2.1 z6.2.2.2.2.2.2.2.1.1 z6.2.2.2.2.2.2.2.1.2.1 (List.replicate z6.2.2.2.2.2.2.1.toNat (0 : Int))).bind fun z9 =>
  some z9
 else none
 else none
def gaq (x0 : List Int) (x1 : Int) : Option (((List (Int × Bool) × List Y1 × List (Int × Bool × Bool × (List (Int × Int))) × List (Int × Int × (List Int)) × Unit) × Y11 × Y11 × Unit) × (Y14 × Unit)) :=
 (gac x0 x1 3).bind fun y15 =>
 bif y15.1 then
  (gaq_15 y15.2.1.1 y15.2.1.2.1 ([] : List (Int × Bool)) ([] : List Y1) ([] : List (Int × Bool × Bool × (List (Int × Int)))) ([] : List (Int × Int × (List Int))) ([] : List Int) ([] : List Int) ([] : List Int) ([] : List Int) ([(0, true), (10, true)] : List (Int × Bool)) ([] : List Y1) ([] : List (Int × Bool × Bool × (List (Int × Int)))) ([] : List (Int × Int × (List Int)))).bind fun z10 =>
  some (z10.2, (z10.1, ()))
 else
  (gaq_15 y15.2.1.1 y15.2.1.2.1 ([] : List (Int × Bool)) ([] : List Y1) ([] : List (Int × Bool × Bool × (List (Int × Int)))) ([] : List (Int × Int × (List Int))) ([] : List Int) ([] : List Int) ([] : List Int) ([] : List Int) ([(0, true)] : List (Int × Bool)) ([] : List Y1) ([] : List (Int × Bool × Bool × (List (Int × Int)))) ([] : List (Int × Int × (List Int)))).bind fun z11 =>
  some (z11.2, (z11.1, ()))
def gar (x0 : Int) : Option (Bool × Unit) :=
 some (decide (x0 ≥ 4), ())
def gas (x0 : List Int) (x1 : Int) (x2 : Int) (x3 : Int) (x4 : Int) : Option (Y2 × (Y14 × Unit)) :=
 (gad x0 x1 1 200).bind fun y0 =>
 (gar x2).bind fun y1 =>
 bif (!y1.1) then
  (gad y0.2.1.1 y0.2.1.2.1 (-50) 20).bind fun y2 =>
  (gad y2.2.1.1 y2.2.1.2.1 300 2000).bind fun y3 =>
  (gab y3.2.1.1 y3.2.1.2.1 6).bind fun y4 =>
  (gab y4.2.1.1 y4.2.1.2.1 700).bind fun y5 =>
  some ((x3, x2, x4, y2.1, y3.1, y4.1, y5.1, y0.1, ()), y5.2)
 else
  some ((x3, x2, x4, 0, 1000, 0, 0, y0.1, ()), y0.2)
def gat (x0 : List Int) (x1 : Int) : Option ((Int × Int × Int × Unit) × (Y14 × Unit)) :=
 (gad x0 x1 1 120).bind fun y0 =>
 (gab y0.2.1.1 y0.2.1.2.1 12).bind fun y1 =>
 (gab y1.2.1.1 y1.2.1.2.1 y0.1).bind fun y2 =>
 some ((y0.1, y2.1, y1.1, ()), y2.2)
def gau_466r (x0 : List Int) (x1 : Int) (x2 : List (Int × Bool)) (x3 : List Y1) (x4 : List (Int × Bool × Bool × (List (Int × Int)))) (x5 : List (Int × Int × (List Int))) (x6 : List Y3) (x7 : List Y6) (x8 : List ((List Y15) × Int × (List Int) × Int)) (x9 : List Int) (x10 : Int) (x11 : Int) (x12 : Int) (x13 : Int) (x14 : Int) (x15 : Int) (x16 : Int) (x17 : Int) (x18 : Int) (x19 : Int) (x20 : Int) (x21 : Int) (x22 : Int) : Option ((Y14 × (List (Int × Bool) × List Y1 × List (Int × Bool × Bool × (List (Int × Int))) × List (Int × Int × (List Int)) × List Y3 × List Y6 × List ((List Y15) × Int × (List Int) × Int) × List Int × Unit) × Y4 × Y4 × Int × Unit) ⊕ (Y43 ⊕ (Y14 × (List (Int × Bool) × List Y1 × List (Int × Bool × Bool × (List (Int × Int))) × List (Int × Int × (List Int)) × List Y3 × List Y6 × List ((List Y15) × Int × (List Int) × Int) × List Int × Unit) × Y4 × Y4 × Unit))) :=
 bif decide (x22 < ((x6.length : Nat) : Int)) then
  (idx x6 x22).bind fun v0 =>
  bif (v0.2.1 == 5) then
   some (.inr (.inl ((x0, x1, ()), (x16, x22, x18, x19, x20, x21, ()), ())))
  else
   some (.inl ((x0, x1, ()), (x2, x3, x4, x5, x6, x7, x8, x9, ()), (x10, x11, x12, x13, x14, x15, ()), (x16, x17, x18, x19, x20, x21, ()), (IntKind.wrap .i64 (x22 + 1)), ()))
 else
  some (.inr (.inr ((x0, x1, ()), (x2, x3, x4, x5, x6, x7, x8, x9, ()), (x10, x11, x12, x13, x14, x15, ()), (x16, x17, x18, x19, x20, x21, ()), ())))
def gau_466F (x : (Y14 × (List (Int × Bool) × List Y1 × List (Int × Bool × Bool × (List (Int × Int))) × List (Int × Int × (List Int)) × List Y3 × List Y6 × List ((List Y15) × Int × (List Int) × Int) × List Int × Unit) × Y4 × Y4 × Int × Unit)) : Option ((Y14 × (List (Int × Bool) × List Y1 × List (Int × Bool × Bool × (List (Int × Int))) × List (Int × Int × (List Int)) × List Y3 × List Y6 × List ((List Y15) × Int × (List Int) × Int) × List Int × Unit) × Y4 × Y4 × Int × Unit) ⊕ (Y43 ⊕ (Y14 × (List (Int × Bool) × List Y1 × List (Int × Bool × Bool × (List (Int × Int))) × List (Int × Int × (List Int)) × List Y3 × List Y6 × List ((List Y15) × Int × (List Int) × Int) × List Int × Unit) × Y4 × Y4 × Unit))) := gau_466r x.1.1 x.1.2.1 x.2.1.1 x.2.1.2.1 x.2.1.2.2.1 x.2.1.2.2.2.1 x.2.1.2.2.2.2.1 x.2.1.2.2.2.2.2.1 x.2.1.2.2.2.2.2.2.1 x.2.1.2.2.2.2.2.2.2.1 x.2.2.1.1 x.2.2.1.2.1 x.2.2.1.2.2.1 x.2.2.1.2.2.2.1 x.2.2.1.2.2.2.2.1 x.2.2.1.2.2.2.2.2.1 x.2.2.2.1.1 x.2.2.2.1.2.1 x.2.2.2.1.2.2.1 x.2.2.2.1.2.2.2.1 x.2.2.2.1.2.2.2.2.1 x.2.2.2.1.2.2.2.2.2.1 x.2.2.2.2.1
def gau_466 (x0 : List Int) (x1 : Int) (x2 : List (Int × Bool)) (x3 : List Y1) (x4 : List (Int × Bool × Bool × (List (Int × Int)))) (x5 : List (Int × Int × (List Int))) (x6 : List Y3) (x7 : List Y6) (x8 : List ((List Y15) × Int × (List Int) × Int)) (x9 : List Int) (x10 : Int) (x11 : Int) (x12 : Int) (x13 : Int) (x14 : Int) (x15 : Int) (x16 : Int) (x17 : Int) (x18 : Int) (x19 : Int) (x20 : Int) (x21 : Int) (x22 : Int) : Option (Y43 ⊕ (Y14 × (List (Int × Bool) × List Y1 × List (Int × Bool × Bool × (List (Int × Int))) × List (Int × Int × (List Int)) × List Y3 × List Y6 × List ((List Y15) × Int × (List Int) × Int) × List Int × Unit) × Y4 × Y4 × Unit)) := loopL gau_466F ((x0, x1, ()), (x2, x3, x4, x5, x6, x7, x8, x9, ()), (x10, x11, x12, x13, x14, x15, ()), (x16, x17, x18, x19, x20, x21, ()), x22, ())
def gau_127 (x0 : List Int) (x1 : Int) (x2 : Int) (x3 : Int) (x4 : Int) (x5 : Int) (x6 : Int) (x7 : Int) (x8 : Int) (x9 : Int) (x10 : Int) (x11 : Int) (x12 : Int) (x13 : Int) (x14 : Int) : Option Y43 :=
 (gab x0 x1 x14).bind fun y0 =>
 some (y0.2.1, (x8, y0.1, x10, x11, x12, x13, ()), ())
def gau_63 (x0 : List Int) (x1 : Int) (x2 : Int) (x3 : Int) (x4 : Int) (x5 : Int) (x6 : Int) (x7 : Int) (x8 : Int) (x9 : Int) (x10 : Int) (x11 : Int) (x12 : Int) (x13 : Int) (x14 : Int) : Option Y43 :=
 bif (x14 == 0) then
  (gau_127 x0 x1 x2 x3 x4 x5 x6 x7 x8 x9 x10 x11 x12 x13 1).bind fun z0 =>
  some z0
 else
  (gau_127 x0 x1 x2 x3 x4 x5 x6 x7 x8 x9 x10 x11 x12 x13 x14).bind fun z1 =>
  some z1
def gau_15 (x0 : List Int) (x1 : Int) (x2 : List (Int × Bool)) (x3 : List Y1) (x4 : List (Int × Bool × Bool × (List (Int × Int)))) (x5 : List (Int × Int × (List Int))) (x6 : List Y3) (x7 : List Y6) (x8 : List ((List Y15) × Int × (List Int) × Int)) (x9 : List Int) (x10 : Int) (x11 : Int) (x12 : Int) (x13 : Int) (x14 : Int) (x15 : Int) (x16 : Int) (x17 : Int) (x18 : Int) (x19 : Int) (x20 : Int) (x21 : Int) : Option Y43 :=
 bif (x16 == 5) then
  (gau_63 x0 x1 x10 x11 x12 x13 x14 x15 x16 x17 x18 x19 x20 x21 ((x3.length : Nat) : Int)).bind fun z2 =>
  some z2
 else
  (gau_63 x0 x1 x10 x11 x12 x13 x14 x15 x16 x17 x18 x19 x20 x21 ((x6.length : Nat) : Int)).bind fun z3 =>
  some z3
def gau (x0 : List Int) (x1 : Int) (x2 : List (Int × Bool)) (x3 : List Y1) (x4 : List (Int × Bool × Bool × (List (Int × Int)))) (x5 : List (Int × Int × (List Int))) (x6 : List Y3) (x7 : List Y6) (x8 : List ((List Y15) × Int × (List Int) × Int)) (x9 : List Int) : Option (Y4 × (Y14 × Unit)) :=
 (gad x0 x1 1 5).bind fun y1 =>
 (gad y1.2.1.1 y1.2.1.2.1 0 60).bind fun y2 =>
 (gat y2.2.1.1 y2.2.1.2.1).bind fun y3 =>
 bif (y1.1 == 3) then
  (gau_466 y3.2.1.1 y3.2.1.2.1 x2 x3 x4 x5 x6 x7 x8 x9 0 0 0 0 0 0 y1.1 0 y2.1 y3.1.1 y3.1.2.1 y3.1.2.2.1 0).bind fun z4 =>
  sumElim z4 (fun z5 =>
   some (z5.2.1, (z5.1, ())))
   (fun z6 =>
   (gau_15 z6.1.1 z6.1.2.1 z6.2.1.1 z6.2.1.2.1 z6.2.1.2.2.1 z6.2.1.2.2.2.1 z6.2.1.2.2.2.2.1 z6.2.1.2.2.2.2.2.1 z6.2.1.2.2.2.2.2.2.1 z6.2.1.2.2.2.2.2.2.2.1 z6.2.2.1.1 z6.2.2.1.2.1 z6.2.2.1.2.2.1 z6.2.2.1.2.2.2.1 z6.2.2.1.2.2.2.2.1 z6.2.2.1.2.2.2.2.2.1 1 z6.2.2.2.1.2.1 z6.2.2.2.1.2.2.1 z6.2.2.2.1.2.2.2.1 z6.2.2.2.1.2.2.2.2.1 z6.2.2.2.1.2.2.2.2.2.1).bind fun z7 =>
   some (z7.2.1, (z7.1, ())))
 else
  (gau_15 y3.2.1.1 y3.2.1.2.1 x2 x3 x4 x5 x6 x7 x8 x9 0 0 0 0 0 0 y1.1 0 y2.1 y3.1.1 y3.1.2.1 y3.1.2.2.1).bind fun z8 =>
  some (z8.2.1, (z8.1, ()))
def gav_16201 (rec : Y37 → Option (List Y15 × (Y14 × Unit))) (x0 : List Int) (x1 : Int) (x2 : List Y15) (x3 : List Y15) (x4 : Int) : Option Y22 :=
 bif (decide (0 ≤ x4) && decide (x4 < ((x3.length : Nat) : Int))) then
 (x3[x4.toNat]?).bind fun v0 =>
 (bif (v0.1 == 3) then some true else (bif (decide (0 ≤ x4) && decide (x4 < ((x3.length : Nat) : Int))) then ((x3[x4.toNat]?).bind fun v1 => some (v1.1 == 4)) else none)).bind fun b0 =>
 bif b0 then
  bif (decide (0 ≤ x4) && decide (x4 < ((x3.length : Nat) : Int))) then
  (x3[x4.toNat]?).bind fun v2 =>
  bif (decide (0 ≤ x4) && decide (x4 < ((x3.length : Nat) : Int))) then
  (x3[x4.toNat]?).bind fun v3 =>
  some ((x0, x1, ()), x2, (x3).set x4.toNat (v3.1, v3.2.1, v3.2.2.1, (IntKind.wrap .i64 (v2.2.2.2 + ((x2.length : Nat) : Int)))), x4, ())
  else none
  else none
 else
  some ((x0, x1, ()), x2, x3, x4, ())
 else none
def gav_506r (rec : Y37 → Option (List Y15 × (Y14 × Unit))) (x0 : List Int) (x1 : Int) (x2 : List Y15) (x3 : List Y15) (x4 : Int) : Option (Y22 ⊕ Y27) :=
 bif decide (x4 < ((x3.length : Nat) : Int)) then
  bif (decide (0 ≤ x4) && decide (x4 < ((x3.length : Nat) : Int))) then
  (x3[x4.toNat]?).bind fun v4 =>
  bif (v4.1 != 1) then
   bif (decide (0 ≤ x4) && decide (x4 < ((x3.length : Nat) : Int))) then
   (x3[x4.toNat]?).bind fun v5 =>
   bif (decide (0 ≤ x4) && decide (x4 < ((x3.length : Nat) : Int))) then
   (x3[x4.toNat]?).bind fun v6 =>
   (gav_16201 rec x0 x1 x2 ((x3).set x4.toNat (v6.1, v6.2.1, (IntKind.wrap .i64 (v5.2.2.1 + ((x2.length : Nat) : Int))), v6.2.2.2)) x4).bind fun z0 =>
   some (.inl (z0.1, z0.2.1, z0.2.2.1, (IntKind.wrap .i64 (z0.2.2.2.1 + 1)), ()))
   else none
   else none
  else
   (gav_16201 rec x0 x1 x2 x3 x4).bind fun z1 =>
   some (.inl (z1.1, z1.2.1, z1.2.2.1, (IntKind.wrap .i64 (z1.2.2.2.1 + 1)), ()))
  else none
 else
  some (.inr ((x0, x1, ()), x2, x3, ()))
def gav_506F (rec : Y37 → Option (List Y15 × (Y14 × Unit))) (x : Y22) : Option (Y22 ⊕ Y27) := gav_506r rec x.1.1 x.1.2.1 x.2.1 x.2.2.1 x.2.2.2.1
def gav_506 (rec : Y37 → Option (List Y15 × (Y14 × Unit))) (x0 : List Int) (x1 : Int) (x2 : List Y15) (x3 : List Y15) (x4 : Int) : Option Y27 := loopL (gav_506F rec) ((x0, x1, ()), x2, x3, x4, ())
def gavb (rec : Y37 → Option (List Y15 × (Y14 × Unit))) (x0 : List Int) (x1 : Int) (x2 : Int) (x3 : Int) : Option (List Y15 × (Y14 × Unit)) :=
 bif decide (x3 < 1) then
  (gab x0 x1 x2).bind fun y0 =>
  some (([(1, y0.1, 0, 0)] : List Y15), y0.2)
 else
  (gab x0 x1 3).bind fun y1 =>
  bif (y1.1 == 0) then
   (gab y1.2.1.1 y1.2.1.2.1 x2).bind fun y2 =>
   some (([(1, y2.1, 0, 0)] : List Y15), y2.2)
  else
   (rec (y1.2.1, x2, (IntKind.wrap .i64 (x3 - 1)), ())).bind fun y3 =>
   (gac y3.2.1.1 y3.2.1.2.1 4).bind fun y4 =>
   bif y4.1 then
    bif decide ((y3.1.length + 1) * 32 ≤ 140737488355328) then
    some ((y3.1 ++ ([(2, 0, (IntKind.wrap .i64 (((y3.1.length : Nat) : Int) - 1)), 0)] : List Y15)), y4.2)
    else none
   else
    (rec (y4.2.1, x2, (IntKind.wrap .i64 (x3 - 1)), ())).bind fun y5 =>
    (gav_506 rec y5.2.1.1 y5.2.1.2.1 y3.1 y5.1 0).bind fun z2 =>
    bif decide ((z2.2.1.length + z2.2.2.1.length) * 32 ≤ 140737488355328) then
    (gad z2.1.1 z2.1.2.1 3 4).bind fun y6 =>
    bif decide (((z2.2.1 ++ z2.2.2.1).length + 1) * 32 ≤ 140737488355328) then
    some (((z2.2.1 ++ z2.2.2.1) ++ ([(y6.1, 0, (IntKind.wrap .i64 (((z2.2.1.length : Nat) : Int) - 1)), (IntKind.wrap .i64 ((IntKind.wrap .i64 (((z2.2.1.length : Nat) : Int) + ((z2.2.2.1.length : Nat) : Int))) - 1)))] : List Y15)), y6.2)
    else none
    else none
def gavi : Nat → Y37 → Option (List Y15 × (Y14 × Unit))
 | 0 => fun _ => none
 | n + 1 => fun x => gavb (gavi n) x.1.1 x.1.2.1 x.2.1 x.2.2.1
def gav (x0 : List Int) (x1 : Int) (x2 : Int) (x3 : Int) : Option (List Y15 × (Y14 × Unit)) := gavi 1000000 ((x0, x1, ()), x2, x3, ())
def gaw_506r (x0 : List Int) (x1 : Int) (x2 : List (Int × Bool)) (x3 : List Y1) (x4 : List (Int × Bool × Bool × (List (Int × Int)))) (x5 : List (Int × Int × (List Int))) (x6 : List Y3) (x7 : List Y6) (x8 : List ((List Y15) × Int × (List Int) × Int)) (x9 : List Int) (x10 : List Int) (x11 : List Int) (x12 : List Int) (x13 : List Int) (x14 : List Y1) (x15 : List (Int × Bool × Bool × (List (Int × Int)))) (x16 : List (Int × Int × (List Int))) (x17 : List Int) (x18 : List Int) (x19 : List Int) (x20 : List Int) (x21 : List (Int × Bool)) (x22 : List Y1) (x23 : List (Int × Bool × Bool × (List (Int × Int)))) (x24 : List (Int × Int × (List Int))) (x25 : List Y3) (x26 : List Y6) (x27 : List ((List Y15) × Int × (List Int) × Int)) (x28 : List Int) (x29 : Int) (x30 : Int) : Option ((Y14 × (List (Int × Bool) × List Y1 × List (Int × Bool × Bool × (List (Int × Int))) × List (Int × Int × (List Int)) × List Y3 × List Y6 × List ((List Y15) × Int × (List Int) × Int) × List Int × Unit) × Y11 × Y11 × (Unit × List Y1 × List (Int × Bool × Bool × (List (Int × Int))) × List (Int × Int × (List Int)) × Unit) × Y11 × Y11 × (List (Int × Bool) × List Y1 × List (Int × Bool × Bool × (List (Int × Int))) × List (Int × Int × (List Int)) × List Y3 × List Y6 × List ((List Y15) × Int × (List Int) × Int) × List Int × Unit) × Int × Int × Unit) ⊕ (Y14 × (List (Int × Bool) × List Y1 × List (Int × Bool × Bool × (List (Int × Int))) × List (Int × Int × (List Int)) × List Y3 × List Y6 × List ((List Y15) × Int × (List Int) × Int) × List Int × Unit) × Y11 × Y11 × (Unit × List Y1 × List (Int × Bool × Bool × (List (Int × Int))) × List (Int × Int × (List Int)) × Unit) × Y11 × Y11 × (List (Int × Bool) × List Y1 × List (Int × Bool × Bool × (List (Int × Int))) × List (Int × Int × (List Int)) × List Y3 × List Y6 × List ((List Y15) × Int × (List Int) × Int) × List Int × Unit) × Int × Unit)) :=
 bif decide (x30 > 0) then
  (gad x0 x1 1 4).bind fun y0 =>
  (gab y0.2.1.1 y0.2.1.2.1 x29).bind fun y1 =>
  (gas y1.2.1.1 y1.2.1.2.1 y0.1 ((x25.length : Nat) : Int) y1.1).bind fun y2 =>
  bif decide ((x25.length + 1) * 64 ≤ 140737488355328) then
  some (.inl (y2.2.1, (x2, x3, x4, x5, x6, x7, x8, x9, ()), (x10, x11, ()), (x12, x13, ()), ((), x14, x15, x16, ()), (x17, x18, ()), (x19, x20, ()), (x21, x22, x23, x24, (x25 ++ ([(y2.1.1, y2.1.2.1, y2.1.2.2.1, y2.1.2.2.2.1, y2.1.2.2.2.2.1, y2.1.2.2.2.2.2.1, y2.1.2.2.2.2.2.2.1, y2.1.2.2.2.2.2.2.2.1)] : List Y3)), x26, x27, x28, ()), x29, (IntKind.wrap .i64 (x30 - 1)), ()))
  else none
 else
  some (.inr ((x0, x1, ()), (x2, x3, x4, x5, x6, x7, x8, x9, ()), (x10, x11, ()), (x12, x13, ()), ((), x14, x15, x16, ()), (x17, x18, ()), (x19, x20, ()), (x21, x22, x23, x24, x25, x26, x27, x28, ()), x29, ()))
def gaw_506F (x : (Y14 × (List (Int × Bool) × List Y1 × List (Int × Bool × Bool × (List (Int × Int))) × List (Int × Int × (List Int)) × List Y3 × List Y6 × List ((List Y15) × Int × (List Int) × Int) × List Int × Unit) × Y11 × Y11 × (Unit × List Y1 × List (Int × Bool × Bool × (List (Int × Int))) × List (Int × Int × (List Int)) × Unit) × Y11 × Y11 × (List (Int × Bool) × List Y1 × List (Int × Bool × Bool × (List (Int × Int))) × List (Int × Int × (List Int)) × List Y3 × List Y6 × List ((List Y15) × Int × (List Int) × Int) × List Int × Unit) × Int × Int × Unit)) : Option ((Y14 × (List (Int × Bool) × List Y1 × List (Int × Bool × Bool × (List (Int × Int))) × List (Int × Int × (List Int)) × List Y3 × List Y6 × List ((List Y15) × Int × (List Int) × Int) × List Int × Unit) × Y11 × Y11 × (Unit × List Y1 × List (Int × Bool × Bool × (List (Int × Int))) × List (Int × Int × (List Int)) × Unit) × Y11 × Y11 × (List (Int × Bool) × List Y1 × List (Int × Bool × Bool × (List (Int × Int))) × List (Int × Int × (List Int)) × List Y3 × List Y6 × List ((List Y15) × Int × (List Int) × Int) × List Int × Unit) × Int × Int × Unit) ⊕ (Y14 × (List (Int × Bool) × List Y1 × List (Int × Bool × Bool × (List (Int × Int))) × List (Int × Int × (List Int)) × List Y3 × List Y6 × List ((List Y15) × Int × (List Int) × Int) × List Int × Unit) × Y11 × Y11 × (Unit × List Y1 × List (Int × Bool × Bool × (List (Int × Int))) × List (Int × Int × (List Int)) × Unit) × Y11 × Y11 × (List (Int × Bool) × List Y1 × List (Int × Bool × Bool × (List (Int × Int))) × List (Int × Int × (List Int)) × List Y3 × List Y6 × List ((List Y15) × Int × (List Int) × Int) × List Int × Unit) × Int × Unit)) := gaw_506r x.1.1 x.1.2.1 x.2.1.1 x.2.1.2.1 x.2.1.2.2.1 x.2.1.2.2.2.1 x.2.1.2.2.2.2.1 x.2.1.2.2.2.2.2.1 x.2.1.2.2.2.2.2.2.1 x.2.1.2.2.2.2.2.2.2.1 x.2.2.1.1 x.2.2.1.2.1 x.2.2.2.1.1 x.2.2.2.1.2.1 x.2.2.2.2.1.2.1 x.2.2.2.2.1.2.2.1 x.2.2.2.2.1.2.2.2.1 x.2.2.2.2.2.1.1 x.2.2.2.2.2.1.2.1 x.2.2.2.2.2.2.1.1 x.2.2.2.2.2.2.1.2.1 x.2.2.2.2.2.2.2.1.1 x.2.2.2.2.2.2.2.1.2.1 x.2.2.2.2.2.2.2.1.2.2.1 x.2.2.2.2.2.2.2.1.2.2.2.1 x.2.2.2.2.2.2.2.1.2.2.2.2.1 x.2.2.2.2.2.2.2.1.2.2.2.2.2.1 x.2.2.2.2.2.2.2.1.2.2.2.2.2.2.1 x.2.2.2.2.2.2.2.1.2.2.2.2.2.2.2.1 x.2.2.2.2.2.2.2.2.1 x.2.2.2.2.2.2.2.2.2.1
def gaw_506 (x0 : List Int) (x1 : Int) (x2 : List (Int × Bool)) (x3 : List Y1) (x4 : List (Int × Bool × Bool × (List (Int × Int)))) (x5 : List (Int × Int × (List Int))) (x6 : List Y3) (x7 : List Y6) (x8 : List ((List Y15) × Int × (List Int) × Int)) (x9 : List Int) (x10 : List Int) (x11 : List Int) (x12 : List Int) (x13 : List Int) (x14 : List Y1) (x15 : List (Int × Bool × Bool × (List (Int × Int)))) (x16 : List (Int × Int × (List Int))) (x17 : List Int) (x18 : List Int) (x19 : List Int) (x20 : List Int) (x21 : List (Int × Bool)) (x22 : List Y1) (x23 : List (Int × Bool × Bool × (List (Int × Int)))) (x24 : List (Int × Int × (List Int))) (x25 : List Y3) (x26 : List Y6) (x27 : List ((List Y15) × Int × (List Int) × Int)) (x28 : List Int) (x29 : Int) (x30 : Int) : Option (Y14 × (List (Int × Bool) × List Y1 × List (Int × Bool × Bool × (List (Int × Int))) × List (Int × Int × (List Int)) × List Y3 × List Y6 × List ((List Y15) × Int × (List Int) × Int) × List Int × Unit) × Y11 × Y11 × (Unit × List Y1 × List (Int × Bool × Bool × (List (Int × Int))) × List (Int × Int × (List Int)) × Unit) × Y11 × Y11 × (List (Int × Bool) × List Y1 × List (Int × Bool × Bool × (List (Int × Int))) × List (Int × Int × (List Int)) × List Y3 × List Y6 × List ((List Y15) × Int × (List Int) × Int) × List Int × Unit) × Int × Unit) := loopL gaw_506F ((x0, x1, ()), (x2, x3, x4, x5, x6, x7, x8, x9, ()), (x10, x11, ()), (x12, x13, ()), ((), x14, x15, x16, ()), (x17, x18, ()), (x19, x20, ()), (x21, x22, x23, x24, x25, x26, x27, x28, ()), x29, x30, ())
def gaw_1018r (x0 : List Int) (x1 : Int) (x2 : List (Int × Bool)) (x3 : List Y1) (x4 : List (Int × Bool × Bool × (List (Int × Int)))) (x5 : List (Int × Int × (List Int))) (x6 : List Y3) (x7 : List Y6) (x8 : List ((List Y15) × Int × (List Int) × Int)) (x9 : List Int) (x10 : List Int) (x11 : List Int) (x12 : List Int) (x13 : List Int) (x14 : List Y1) (x15 : List (Int × Bool × Bool × (List (Int × Int)))) (x16 : List (Int × Int × (List Int))) (x17 : List Int) (x18 : List Int) (x19 : List Int) (x20 : List Int) (x21 : List (Int × Bool)) (x22 : List Y1) (x23 : List (Int × Bool × Bool × (List (Int × Int)))) (x24 : List (Int × Int × (List Int))) (x25 : List Y3) (x26 : List Y6) (x27 : List ((List Y15) × Int × (List Int) × Int)) (x28 : List Int) (x29 : Int) (x30 : Int) : Option ((Y14 × (List (Int × Bool) × List Y1 × List (Int × Bool × Bool × (List (Int × Int))) × List (Int × Int × (List Int)) × List Y3 × List Y6 × List ((List Y15) × Int × (List Int) × Int) × List Int × Unit) × Y11 × Y11 × (Unit × List Y1 × List (Int × Bool × Bool × (List (Int × Int))) × List (Int × Int × (List Int)) × Unit) × Y11 × Y11 × (List (Int × Bool) × List Y1 × List (Int × Bool × Bool × (List (Int × Int))) × List (Int × Int × (List Int)) × List Y3 × List Y6 × List ((List Y15) × Int × (List Int) × Int) × List Int × Unit) × Int × Int × Unit) ⊕ (Y14 × (List (Int × Bool) × List Y1 × List (Int × Bool × Bool × (List (Int × Int))) × List (Int × Int × (List Int)) × List Y3 × List Y6 × List ((List Y15) × Int × (List Int) × Int) × List Int × Unit) × Y11 × Y11 × (Unit × List Y1 × List (Int × Bool × Bool × (List (Int × Int))) × List (Int × Int × (List Int)) × Unit) × Y11 × Y11 × (List (Int × Bool) × List Y1 × List (Int × Bool × Bool × (List (Int × Int))) × List (Int × Int × (List Int)) × List Y3 × List Y6 × List ((List Y15) × Int × (List Int) × Int) × List Int × Unit) × Int × Unit)) :=
 bif decide (x30 < ((x15.length : Nat) : Int)) then
  (gas x0 x1 5 ((x25.length : Nat) : Int) x30).bind fun y3 =>
  bif decide ((x25.length + 1) * 64 ≤ 140737488355328) then
  some (.inl (y3.2.1, (x2, x3, x4, x5, x6, x7, x8, x9, ()), (x10, x11, ()), (x12, x13, ()), ((), x14, x15, x16, ()), (x17, x18, ()), (x19, x20, ()), (x21, x22, x23, x24, (x25 ++ ([(y3.1.1, y3.1.2.1, y3.1.2.2.1, y3.1.2.2.2.1, y3.1.2.2.2.2.1, y3.1.2.2.2.2.2.1, y3.1.2.2.2.2.2.2.1, y3.1.2.2.2.2.2.2.2.1)] : List Y3)), x26, x27, x28, ()), x29, (IntKind.wrap .i64 (x30 + 1)), ()))
  else none
 else
  some (.inr ((x0, x1, ()), (x2, x3, x4, x5, x6, x7, x8, x9, ()), (x10, x11, ()), (x12, x13, ()), ((), x14, x15, x16, ()), (x17, x18, ()), (x19, x20, ()), (x21, x22, x23, x24, x25, x26, x27, x28, ()), x29, ()))
def gaw_1018F (x : (Y14 × (List (Int × Bool) × List Y1 × List (Int × Bool × Bool × (List (Int × Int))) × List (Int × Int × (List Int)) × List Y3 × List Y6 × List ((List Y15) × Int × (List Int) × Int) × List Int × Unit) × Y11 × Y11 × (Unit × List Y1 × List (Int × Bool × Bool × (List (Int × Int))) × List (Int × Int × (List Int)) × Unit) × Y11 × Y11 × (List (Int × Bool) × List Y1 × List (Int × Bool × Bool × (List (Int × Int))) × List (Int × Int × (List Int)) × List Y3 × List Y6 × List ((List Y15) × Int × (List Int) × Int) × List Int × Unit) × Int × Int × Unit)) : Option ((Y14 × (List (Int × Bool) × List Y1 × List (Int × Bool × Bool × (List (Int × Int))) × List (Int × Int × (List Int)) × List Y3 × List Y6 × List ((List Y15) × Int × (List Int) × Int) × List Int × Unit) × Y11 × Y11 × (Unit × List Y1 × List (Int × Bool × Bool × (List (Int × Int))) × List (Int × Int × (List Int)) × Unit) × Y11 × Y11 × (List (Int × Bool) × List Y1 × List (Int × Bool × Bool × (List (Int × Int))) × List (Int × Int × (List Int)) × List Y3 × List Y6 × List ((List Y15) × Int × (List Int) × Int) × List Int × Unit) × Int × Int × Unit) ⊕ (Y14 × (List (Int × Bool) × List Y1 × List (Int × Bool × Bool × (List (Int × Int))) × List (Int × Int × (List Int)) × List Y3 × List Y6 × List ((List Y15) × Int × (List Int) × Int) × List Int × Unit) × Y11 × Y11 × (Unit × List Y1 × List (Int × Bool × Bool × (List (Int × Int))) × List (Int × Int × (List Int)) × Unit) × Y11 × Y11 × (List (Int × Bool) × List Y1 × List (Int × Bool × Bool × (List (Int × Int))) × List (Int × Int × (List Int)) × List Y3 × List Y6 × List ((List Y15) × Int × (List Int) × Int) × List Int × Unit) × Int × Unit)) := gaw_1018r x.1.1 x.1.2.1 x.2.1.1 x.2.1.2.1 x.2.1.2.2.1 x.2.1.2.2.2.1 x.2.1.2.2.2.2.1 x.2.1.2.2.2.2.2.1 x.2.1.2.2.2.2.2.2.1 x.2.1.2.2.2.2.2.2.2.1 x.2.2.1.1 x.2.2.1.2.1 x.2.2.2.1.1 x.2.2.2.1.2.1 x.2.2.2.2.1.2.1 x.2.2.2.2.1.2.2.1 x.2.2.2.2.1.2.2.2.1 x.2.2.2.2.2.1.1 x.2.2.2.2.2.1.2.1 x.2.2.2.2.2.2.1.1 x.2.2.2.2.2.2.1.2.1 x.2.2.2.2.2.2.2.1.1 x.2.2.2.2.2.2.2.1.2.1 x.2.2.2.2.2.2.2.1.2.2.1 x.2.2.2.2.2.2.2.1.2.2.2.1 x.2.2.2.2.2.2.2.1.2.2.2.2.1 x.2.2.2.2.2.2.2.1.2.2.2.2.2.1 x.2.2.2.2.2.2.2.1.2.2.2.2.2.2.1 x.2.2.2.2.2.2.2.1.2.2.2.2.2.2.2.1 x.2.2.2.2.2.2.2.2.1 x.2.2.2.2.2.2.2.2.2.1
def gaw_1018 (x0 : List Int) (x1 : Int) (x2 : List (Int × Bool)) (x3 : List Y1) (x4 : List (Int × Bool × Bool × (List (Int × Int)))) (x5 : List (Int × Int × (List Int))) (x6 : List Y3) (x7 : List Y6) (x8 : List ((List Y15) × Int × (List Int) × Int)) (x9 : List Int) (x10 : List Int) (x11 : List Int) (x12 : List Int) (x13 : List Int) (x14 : List Y1) (x15 : List (Int × Bool × Bool × (List (Int × Int)))) (x16 : List (Int × Int × (List Int))) (x17 : List Int) (x18 : List Int) (x19 : List Int) (x20 : List Int) (x21 : List (Int × Bool)) (x22 : List Y1) (x23 : List (Int × Bool × Bool × (List (Int × Int)))) (x24 : List (Int × Int × (List Int))) (x25 : List Y3) (x26 : List Y6) (x27 : List ((List Y15) × Int × (List Int) × Int)) (x28 : List Int) (x29 : Int) (x30 : Int) : Option (Y14 × (List (Int × Bool) × List Y1 × List (Int × Bool × Bool × (List (Int × Int))) × List (Int × Int × (List Int)) × List Y3 × List Y6 × List ((List Y15) × Int × (List Int) × Int) × List Int × Unit) × Y11 × Y11 × (Unit × List Y1 × List (Int × Bool × Bool × (List (Int × Int))) × List (Int × Int × (List Int)) × Unit) × Y11 × Y11 × (List (Int × Bool) × List Y1 × List (Int × Bool × Bool × (List (Int × Int))) × List (Int × Int × (List Int)) × List Y3 × List Y6 × List ((List Y15) × Int × (List Int) × Int) × List Int × Unit) × Int × Unit) := loopL gaw_1018F ((x0, x1, ()), (x2, x3, x4, x5, x6, x7, x8, x9, ()), (x10, x11, ()), (x12, x13, ()), ((), x14, x15, x16, ()), (x17, x18, ()), (x19, x20, ()), (x21, x22, x23, x24, x25, x26, x27, x28, ()), x29, x30, ())
def gaw_2042r (x0 : List Int) (x1 : Int) (x2 : List (Int × Bool)) (x3 : List Y1) (x4 : List (Int × Bool × Bool × (List (Int × Int)))) (x5 : List (Int × Int × (List Int))) (x6 : List Y3) (x7 : List Y6) (x8 : List ((List Y15) × Int × (List Int) × Int)) (x9 : List Int) (x10 : List Int) (x11 : List Int) (x12 : List Int) (x13 : List Int) (x14 : List Y1) (x15 : List (Int × Bool × Bool × (List (Int × Int)))) (x16 : List (Int × Int × (List Int))) (x17 : List Int) (x18 : List Int) (x19 : List Int) (x20 : List Int) (x21 : List (Int × Bool)) (x22 : List Y1) (x23 : List (Int × Bool × Bool × (List (Int × Int)))) (x24 : List (Int × Int × (List Int))) (x25 : List Y3) (x26 : List Y6) (x27 : List ((List Y15) × Int × (List Int) × Int)) (x28 : List Int) (x29 : Int) (x30 : Int) : Option ((Y14 × (List (Int × Bool) × List Y1 × List (Int × Bool × Bool × (List (Int × Int))) × List (Int × Int × (List Int)) × List Y3 × List Y6 × List ((List Y15) × Int × (List Int) × Int) × List Int × Unit) × Y11 × Y11 × (Unit × List Y1 × List (Int × Bool × Bool × (List (Int × Int))) × List (Int × Int × (List Int)) × Unit) × Y11 × Y11 × (List (Int × Bool) × List Y1 × List (Int × Bool × Bool × (List (Int × Int))) × List (Int × Int × (List Int)) × List Y3 × List Y6 × List ((List Y15) × Int × (List Int) × Int) × List Int × Unit) × Int × Int × Unit) ⊕ (Y14 × (List (Int × Bool) × List Y1 × List (Int × Bool × Bool × (List (Int × Int))) × List (Int × Int × (List Int)) × List Y3 × List Y6 × List ((List Y15) × Int × (List Int) × Int) × List Int × Unit) × Y11 × Y11 × Y11 × Y11 × (List (Int × Bool) × List Y1 × List (Int × Bool × Bool × (List (Int × Int))) × List (Int × Int × (List Int)) × List Y3 × List Y6 × List ((List Y15) × Int × (List Int) × Int) × List Int × Unit) × Int × Unit)) :=
 bif decide (x30 < ((x16.length : Nat) : Int)) then
  (gas x0 x1 6 ((x25.length : Nat) : Int) x30).bind fun y4 =>
  bif decide ((x25.length + 1) * 64 ≤ 140737488355328) then
  some (.inl (y4.2.1, (x2, x3, x4, x5, x6, x7, x8, x9, ()), (x10, x11, ()), (x12, x13, ()), ((), x14, x15, x16, ()), (x17, x18, ()), (x19, x20, ()), (x21, x22, x23, x24, (x25 ++ ([(y4.1.1, y4.1.2.1, y4.1.2.2.1, y4.1.2.2.2.1, y4.1.2.2.2.2.1, y4.1.2.2.2.2.2.1, y4.1.2.2.2.2.2.2.1, y4.1.2.2.2.2.2.2.2.1)] : List Y3)), x26, x27, x28, ()), x29, (IntKind.wrap .i64 (x30 + 1)), ()))
  else none
 else
  some (.inr ((x0, x1, ()), (x2, x3, x4, x5, x6, x7, x8, x9, ()), (x10, x11, ()), (x12, x13, ()), (x17, x18, ()), (x19, x20, ()), (x21, x22, x23, x24, x25, x26, x27, x28, ()), x29, ()))
def gaw_2042F (x : (Y14 × (List (Int × Bool) × List Y1 × List (Int × Bool × Bool × (List (Int × Int))) × List (Int × Int × (List Int)) × List Y3 × List Y6 × List ((List Y15) × Int × (List Int) × Int) × List Int × Unit) × Y11 × Y11 × (Unit × List Y1 × List (Int × Bool × Bool × (List (Int × Int))) × List (Int × Int × (List Int)) × Unit) × Y11 × Y11 × (List (Int × Bool) × List Y1 × List (Int × Bool × Bool × (List (Int × Int))) × List (Int × Int × (List Int)) × List Y3 × List Y6 × List ((List Y15) × Int × (List Int) × Int) × List Int × Unit) × Int × Int × Unit)) : Option ((Y14 × (List (Int × Bool) × List Y1 × List (Int × Bool × Bool × (List (Int × Int))) × List (Int × Int × (List Int)) × List Y3 × List Y6 × List ((List Y15) × Int × (List Int) × Int) × List Int × Unit) × Y11 × Y11 × (Unit × List Y1 × List (Int × Bool × Bool × (List (Int × Int))) × List (Int × Int × (List Int)) × Unit) × Y11 × Y11 × (List (Int × Bool) × List Y1 × List (Int × Bool × Bool × (List (Int × Int))) × List (Int × Int × (List Int)) × List Y3 × List Y6 × List ((List Y15) × Int × (List Int) × Int) × List Int × Unit) × Int × Int × Unit) ⊕ (Y14 × (List (Int × Bool) × List Y1 × List (Int × Bool × Bool × (List (Int × Int))) × List (Int × Int × (List Int)) × List Y3 × List Y6 × List ((List Y15) × Int × (List Int) × Int) × List Int × Unit) × Y11 × Y11 × Y11 × Y11 × (List (Int × Bool) × List Y1 × List (Int × Bool × Bool × (List (Int × Int))) × List (Int × Int × (List Int)) × List Y3 × List Y6 × List ((List Y15) × Int × (List Int) × Int) × List Int × Unit) × Int × Unit)) := gaw_2042r x.1.1 x.1.2.1 x.2.1.1 x.2.1.2.1 x.2.1.2.2.1 x.2.1.2.2.2.1 x.2.1.2.2.2.2.1 x.2.1.2.2.2.2.2.1 x.2.1.2.2.2.2.2.2.1 x.2.1.2.2.2.2.2.2.2.1 x.2.2.1.1 x.2.2.1.2.1 x.2.2.2.1.1 x.2.2.2.1.2.1 x.2.2.2.2.1.2.1 x.2.2.2.2.1.2.2.1 x.2.2.2.2.1.2.2.2.1 x.2.2.2.2.2.1.1 x.2.2.2.2.2.1.2.1 x.2.2.2.2.2.2.1.1 x.2.2.2.2.2.2.1.2.1 x.2.2.2.2.2.2.2.1.1 x.2.2.2.2.2.2.2.1.2.1 x.2.2.2.2.2.2.2.1.2.2.1 x.2.2.2.2.2.2.2.1.2.2.2.1 x.2.2.2.2.2.2.2.1.2.2.2.2.1 x.2.2.2.2.2.2.2.1.2.2.2.2.2.1 x.2.2.2.2.2.2.2.1.2.2.2.2.2.2.1 x.2.2.2.2.2.2.2.1.2.2.2.2.2.2.2.1 x.2.2.2.2.2.2.2.2.1 x.2.2.2.2.2.2.2.2.2.1
def gaw_2042 (x0 : List Int) (x1 : Int) (x2 : List (Int × Bool)) (x3 : List Y1) (x4 : List (Int × Bool × Bool × (List (Int × Int)))) (x5 : List (Int × Int × (List Int))) (x6 : List Y3) (x7 : List Y6) (x8 : List ((List Y15) × Int × (List Int) × Int)) (x9 : List Int) (x10 : List Int) (x11 : List Int) (x12 : List Int) (x13 : List Int) (x14 : List Y1) (x15 : List (Int × Bool × Bool × (List (Int × Int)))) (x16 : List (Int × Int × (List Int))) (x17 : List Int) (x18 : List Int) (x19 : List Int) (x20 : List Int) (x21 : List (Int × Bool)) (x22 : List Y1) (x23 : List (Int × Bool × Bool × (List (Int × Int)))) (x24 : List (Int × Int × (List Int))) (x25 : List Y3) (x26 : List Y6) (x27 : List ((List Y15) × Int × (List Int) × Int)) (x28 : List Int) (x29 : Int) (x30 : Int) : Option (Y14 × (List (Int × Bool) × List Y1 × List (Int × Bool × Bool × (List (Int × Int))) × List (Int × Int × (List Int)) × List Y3 × List Y6 × List ((List Y15) × Int × (List Int) × Int) × List Int × Unit) × Y11 × Y11 × Y11 × Y11 × (List (Int × Bool) × List Y1 × List (Int × Bool × Bool × (List (Int × Int))) × List (Int × Int × (List Int)) × List Y3 × List Y6 × List ((List Y15) × Int × (List Int) × Int) × List Int × Unit) × Int × Unit) := loopL gaw_2042F ((x0, x1, ()), (x2, x3, x4, x5, x6, x7, x8, x9, ()), (x10, x11, ()), (x12, x13, ()), ((), x14, x15, x16, ()), (x17, x18, ()), (x19, x20, ()), (x21, x22, x23, x24, x25, x26, x27, x28, ()), x29, x30, ())
def gaw_4090r (x0 : List Int) (x1 : Int) (x2 : List (Int × Bool)) (x3 : List Y1) (x4 : List (Int × Bool × Bool × (List (Int × Int)))) (x5 : List (Int × Int × (List Int))) (x6 : List Y3) (x7 : List Y6) (x8 : List ((List Y15) × Int × (List Int) × Int)) (x9 : List Int) (x10 : List Int) (x11 : List Int) (x12 : List Int) (x13 : List Int) (x14 : List Int) (x15 : List Int) (x16 : List Int) (x17 : List Int) (x18 : List (Int × Bool)) (x19 : List Y1) (x20 : List (Int × Bool × Bool × (List (Int × Int)))) (x21 : List (Int × Int × (List Int))) (x22 : List Y3) (x23 : List Y6) (x24 : List ((List Y15) × Int × (List Int) × Int)) (x25 : List Int) (x26 : Int) (x27 : Int) : Option ((Y14 × (List (Int × Bool) × List Y1 × List (Int × Bool × Bool × (List (Int × Int))) × List (Int × Int × (List Int)) × List Y3 × List Y6 × List ((List Y15) × Int × (List Int) × Int) × List Int × Unit) × Y11 × Y11 × Y11 × Y11 × (List (Int × Bool) × List Y1 × List (Int × Bool × Bool × (List (Int × Int))) × List (Int × Int × (List Int)) × List Y3 × List Y6 × List ((List Y15) × Int × (List Int) × Int) × List Int × Unit) × Int × Int × Unit) ⊕ (Y14 × (List (Int × Bool) × List Y1 × List (Int × Bool × Bool × (List (Int × Int))) × List (Int × Int × (List Int)) × List Y3 × List Y6 × List ((List Y15) × Int × (List Int) × Int) × List Int × Unit) × Y11 × Y11 × Y11 × Y11 × (List (Int × Bool) × List Y1 × List (Int × Bool × Bool × (List (Int × Int))) × List (Int × Int × (List Int)) × List Y3 × List Y6 × List ((List Y15) × Int × (List Int) × Int) × List Int × Unit) × Int × Unit)) :=
 bif decide (x27 > 0) then
  (gau x0 x1 x18 x19 x20 x21 x22 x23 x24 x25).bind fun y5 =>
  bif decide ((x23.length + 1) * 48 ≤ 140737488355328) then
  some (.inl (y5.2.1, (x2, x3, x4, x5, x6, x7, x8, x9, ()), (x10, x11, ()), (x12, x13, ()), (x14, x15, ()), (x16, x17, ()), (x18, x19, x20, x21, x22, (x23 ++ ([(y5.1.1, y5.1.2.1, y5.1.2.2.1, y5.1.2.2.2.1, y5.1.2.2.2.2.1, y5.1.2.2.2.2.2.1)] : List Y6)), x24, x25, ()), x26, (IntKind.wrap .i64 (x27 - 1)), ()))
  else none
 else
  some (.inr ((x0, x1, ()), (x2, x3, x4, x5, x6, x7, x8, x9, ()), (x10, x11, ()), (x12, x13, ()), (x14, x15, ()), (x16, x17, ()), (x18, x19, x20, x21, x22, x23, x24, x25, ()), x26, ()))
def gaw_4090F (x : (Y14 × (List (Int × Bool) × List Y1 × List (Int × Bool × Bool × (List (Int × Int))) × List (Int × Int × (List Int)) × List Y3 × List Y6 × List ((List Y15) × Int × (List Int) × Int) × List Int × Unit) × Y11 × Y11 × Y11 × Y11 × (List (Int × Bool) × List Y1 × List (Int × Bool × Bool × (List (Int × Int))) × List (Int × Int × (List Int)) × List Y3 × List Y6 × List ((List Y15) × Int × (List Int) × Int) × List Int × Unit) × Int × Int × Unit)) : Option ((Y14 × (List (Int × Bool) × List Y1 × List (Int × Bool × Bool × (List (Int × Int))) × List (Int × Int × (List Int)) × List Y3 × List Y6 × List ((List Y15) × Int × (List Int) × Int) × List Int × Unit) × Y11 × Y11 × Y11 × Y11 × (List (Int × Bool) × List Y1 × List (Int × Bool × Bool × (List (Int × Int))) × List (Int × Int × (List Int)) × List Y3 × List Y6 × List ((List Y15) × Int × (List Int) × Int) × List Int × Unit) × Int × Int × Unit) ⊕ (Y14 × (List (Int × Bool) × List Y1 × List (Int × Bool × Bool × (List (Int × Int))) × List (Int × Int × (List Int)) × List Y3 × List Y6 × List ((List Y15) × Int × (List Int) × Int) × List Int × Unit) × Y11 × Y11 × Y11 × Y11 × (List (Int × Bool) × List Y1 × List (Int × Bool × Bool × (List (Int × Int))) × List (Int × Int × (List Int)) × List Y3 × List Y6 × List ((List Y15) × Int × (List Int) × Int) × List Int × Unit) × Int × Unit)) := gaw_4090r x.1.1 x.1.2.1 x.2.1.1 x.2.1.2.1 x.2.1.2.2.1 x.2.1.2.2.2.1 x.2.1.2.2.2.2.1 x.2.1.2.2.2.2.2.1 x.2.1.2.2.2.2.2.2.1 x.2.1.2.2.2.2.2.2.2.1 x.2.2.1.1 x.2.2.1.2.1 x.2.2.2.1.1 x.2.2.2.1.2.1 x.2.2.2.2.1.1 x.2.2.2.2.1.2.1 x.2.2.2.2.2.1.1 x.2.2.2.2.2.1.2.1 x.2.2.2.2.2.2.1.1 x.2.2.2.2.2.2.1.2.1 x.2.2.2.2.2.2.1.2.2.1 x.2.2.2.2.2.2.1.2.2.2.1 x.2.2.2.2.2.2.1.2.2.2.2.1 x.2.2.2.2.2.2.1.2.2.2.2.2.1 x.2.2.2.2.2.2.1.2.2.2.2.2.2.1 x.2.2.2.2.2.2.1.2.2.2.2.2.2.2.1 x.2.2.2.2.2.2.2.1 x.2.2.2.2.2.2.2.2.1
def gaw_4090 (x0 : List Int) (x1 : Int) (x2 : List (Int × Bool)) (x3 : List Y1) (x4 : List (Int × Bool × Bool × (List (Int × Int)))) (x5 : List (Int × Int × (List Int))) (x6 : List Y3) (x7 : List Y6) (x8 : List ((List Y15) × Int × (List Int) × Int)) (x9 : List Int) (x10 : List Int) (x11 : List Int) (x12 : List Int) (x13 : List Int) (x14 : List Int) (x15 : List Int) (x16 : List Int) (x17 : List Int) (x18 : List (Int × Bool)) (x19 : List Y1) (x20 : List (Int × Bool × Bool × (List (Int × Int)))) (x21 : List (Int × Int × (List Int))) (x22 : List Y3) (x23 : List Y6) (x24 : List ((List Y15) × Int × (List Int) × Int)) (x25 : List Int) (x26 : Int) (x27 : Int) : Option (Y14 × (List (Int × Bool) × List Y1 × List (Int × Bool × Bool × (List (Int × Int))) × List (Int × Int × (List Int)) × List Y3 × List Y6 × List ((List Y15) × Int × (List Int) × Int) × List Int × Unit) × Y11 × Y11 × Y11 × Y11 × (List (Int × Bool) × List Y1 × List (Int × Bool × Bool × (List (Int × Int))) × List (Int × Int × (List Int)) × List Y3 × List Y6 × List ((List Y15) × Int × (List Int) × Int) × List Int × Unit) × Int × Unit) := loopL gaw_4090F ((x0, x1, ()), (x2, x3, x4, x5, x6, x7, x8, x9, ()), (x10, x11, ()), (x12, x13, ()), (x14, x15, ()), (x16, x17, ()), (x18, x19, x20, x21, x22, x23, x24, x25, ()), x26, x27, ())
def gaw_2095690r (x0 : List Int) (x1 : Int) (x2 : List (Int × Bool)) (x3 : List Y1) (x4 : List (Int × Bool × Bool × (List (Int × Int)))) (x5 : List (Int × Int × (List Int))) (x6 : List Y3) (x7 : List Y6) (x8 : List ((List Y15) × Int × (List Int) × Int)) (x9 : List Int) (x10 : List Int) (x11 : List Int) (x12 : List Int) (x13 : List Int) (x14 : List Int) (x15 : List Int) (x16 : List Int) (x17 : List Int) (x18 : List (Int × Bool)) (x19 : List Y1) (x20 : List (Int × Bool × Bool × (List (Int × Int)))) (x21 : List (Int × Int × (List Int))) (x22 : List Y3) (x23 : List Y6) (x24 : List ((List Y15) × Int × (List Int) × Int)) (x25 : List Int) (x26 : Int) (x27 : Int) (x28 : List Y15) (x29 : Int) (x30 : List Int) (x31 : Int) (x32 : Int) : Option ((Y14 × (List (Int × Bool) × List Y1 × List (Int × Bool × Bool × (List (Int × Int))) × List (Int × Int × (List Int)) × List Y3 × List Y6 × List ((List Y15) × Int × (List Int) × Int) × List Int × Unit) × Y11 × Y11 × Y11 × Y11 × (List (Int × Bool) × List Y1 × List (Int × Bool × Bool × (List (Int × Int))) × List (Int × Int × (List Int)) × List Y3 × List Y6 × List ((List Y15) × Int × (List Int) × Int) × List Int × Unit) × Int × Int × Y23 × Int × Unit) ⊕ (Y14 × (List (Int × Bool) × List Y1 × List (Int × Bool × Bool × (List (Int × Int))) × List (Int × Int × (List Int)) × List Y3 × List Y6 × List ((List Y15) × Int × (List Int) × Int) × List Int × Unit) × Y11 × Y11 × Y11 × Y11 × (List (Int × Bool) × List Y1 × List (Int × Bool × Bool × (List (Int × Int))) × List (Int × Int × (List Int)) × List Y3 × List Y6 × List ((List Y15) × Int × (List Int) × Int) × List Int × Unit) × Int × Int × Y23 × Unit)) :=
 bif decide (x32 < x26) then
  (gac x0 x1 4).bind fun y6 =>
  bif y6.1 then
   bif decide ((x30.length + 1) * 8 ≤ 140737488355328) then
   some (.inl (y6.2.1, (x2, x3, x4, x5, x6, x7, x8, x9, ()), (x10, x11, ()), (x12, x13, ()), (x14, x15, ()), (x16, x17, ()), (x18, x19, x20, x21, x22, x23, x24, x25, ()), x26, x27, (x28, x29, (x30 ++ ([x32] : List Int)), x31, ()), (IntKind.wrap .i64 (x32 + 1)), ()))
   else none
  else
   some (.inl (y6.2.1, (x2, x3, x4, x5, x6, x7, x8, x9, ()), (x10, x11, ()), (x12, x13, ()), (x14, x15, ()), (x16, x17, ()), (x18, x19, x20, x21, x22, x23, x24, x25, ()), x26, x27, (x28, x29, x30, x31, ()), (IntKind.wrap .i64 (x32 + 1)), ()))
 else
  some (.inr ((x0, x1, ()), (x2, x3, x4, x5, x6, x7, x8, x9, ()), (x10, x11, ()), (x12, x13, ()), (x14, x15, ()), (x16, x17, ()), (x18, x19, x20, x21, x22, x23, x24, x25, ()), x26, x27, (x28, x29, x30, x31, ()), ()))
def gaw_2095690F (x : (Y14 × (List (Int × Bool) × List Y1 × List (Int × Bool × Bool × (List (Int × Int))) × List (Int × Int × (List Int)) × List Y3 × List Y6 × List ((List Y15) × Int × (List Int) × Int) × List Int × Unit) × Y11 × Y11 × Y11 × Y11 × (List (Int × Bool) × List Y1 × List (Int × Bool × Bool × (List (Int × Int))) × List (Int × Int × (List Int)) × List Y3 × List Y6 × List ((List Y15) × Int × (List Int) × Int) × List Int × Unit) × Int × Int × Y23 × Int × Unit)) : Option ((Y14 × (List (Int × Bool) × List Y1 × List (Int × Bool × Bool × (List (Int × Int))) × List (Int × Int × (List Int)) × List Y3 × List Y6 × List ((List Y15) × Int × (List Int) × Int) × List Int × Unit) × Y11 × Y11 × Y11 × Y11 × (List (Int × Bool) × List Y1 × List (Int × Bool × Bool × (List (Int × Int))) × List (Int × Int × (List Int)) × List Y3 × List Y6 × List ((List Y15) × Int × (List Int) × Int) × List Int × Unit) × Int × Int × Y23 × Int × Unit) ⊕ (Y14 × (List (Int × Bool) × List Y1 × List (Int × Bool × Bool × (List (Int × Int))) × List (Int × Int × (List Int)) × List Y3 × List Y6 × List ((List Y15) × Int × (List Int) × Int) × List Int × Unit) × Y11 × Y11 × Y11 × Y11 × (List (Int × Bool) × List Y1 × List (Int × Bool × Bool × (List (Int × Int))) × List (Int × Int × (List Int)) × List Y3 × List Y6 × List ((List Y15) × Int × (List Int) × Int) × List Int × Unit) × Int × Int × Y23 × Unit)) := gaw_2095690r x.1.1 x.1.2.1 x.2.1.1 x.2.1.2.1 x.2.1.2.2.1 x.2.1.2.2.2.1 x.2.1.2.2.2.2.1 x.2.1.2.2.2.2.2.1 x.2.1.2.2.2.2.2.2.1 x.2.1.2.2.2.2.2.2.2.1 x.2.2.1.1 x.2.2.1.2.1 x.2.2.2.1.1 x.2.2.2.1.2.1 x.2.2.2.2.1.1 x.2.2.2.2.1.2.1 x.2.2.2.2.2.1.1 x.2.2.2.2.2.1.2.1 x.2.2.2.2.2.2.1.1 x.2.2.2.2.2.2.1.2.1 x.2.2.2.2.2.2.1.2.2.1 x.2.2.2.2.2.2.1.2.2.2.1 x.2.2.2.2.2.2.1.2.2.2.2.1 x.2.2.2.2.2.2.1.2.2.2.2.2.1 x.2.2.2.2.2.2.1.2.2.2.2.2.2.1 x.2.2.2.2.2.2.1.2.2.2.2.2.2.2.1 x.2.2.2.2.2.2.2.1 x.2.2.2.2.2.2.2.2.1 x.2.2.2.2.2.2.2.2.2.1.1 x.2.2.2.2.2.2.2.2.2.1.2.1 x.2.2.2.2.2.2.2.2.2.1.2.2.1 x.2.2.2.2.2.2.2.2.2.1.2.2.2.1 x.2.2.2.2.2.2.2.2.2.2.1
def gaw_2095690 (x0 : List Int) (x1 : Int) (x2 : List (Int × Bool)) (x3 : List Y1) (x4 : List (Int × Bool × Bool × (List (Int × Int)))) (x5 : List (Int × Int × (List Int))) (x6 : List Y3) (x7 : List Y6) (x8 : List ((List Y15) × Int × (List Int) × Int)) (x9 : List Int) (x10 : List Int) (x11 : List Int) (x12 : List Int) (x13 : List Int) (x14 : List Int) (x15 : List Int) (x16 : List Int) (x17 : List Int) (x18 : List (Int × Bool)) (x19 : List Y1) (x20 : List (Int × Bool × Bool × (List (Int × Int)))) (x21 : List (Int × Int × (List Int))) (x22 : List Y3) (x23 : List Y6) (x24 : List ((List Y15) × Int × (List Int) × Int)) (x25 : List Int) (x26 : Int) (x27 : Int) (x28 : List Y15) (x29 : Int) (x30 : List Int) (x31 : Int) (x32 : Int) : Option (Y14 × (List (Int × Bool) × List Y1 × List (Int × Bool × Bool × (List (Int × Int))) × List (Int × Int × (List Int)) × List Y3 × List Y6 × List ((List Y15) × Int × (List Int) × Int) × List Int × Unit) × Y11 × Y11 × Y11 × Y11 × (List (Int × Bool) × List Y1 × List (Int × Bool × Bool × (List (Int × Int))) × List (Int × Int × (List Int)) × List Y3 × List Y6 × List ((List Y15) × Int × (List Int) × Int) × List Int × Unit) × Int × Int × Y23 × Unit) := loopL gaw_2095690F ((x0, x1, ()), (x2, x3, x4, x5, x6, x7, x8, x9, ()), (x10, x11, ()), (x12, x13, ()), (x14, x15, ()), (x16, x17, ()), (x18, x19, x20, x21, x22, x23, x24, x25, ()), x26, x27, (x28, x29, x30, x31, ()), x32, ())
def gaw_8186r (x0 : List Int) (x1 : Int) (x2 : List (Int × Bool)) (x3 : List Y1) (x4 : List (Int × Bool × Bool × (List (Int × Int)))) (x5 : List (Int × Int × (List Int))) (x6 : List Y3) (x7 : List Y6) (x8 : List ((List Y15) × Int × (List Int) × Int)) (x9 : List Int) (x10 : List Int) (x11 : List Int) (x12 : List Int) (x13 : List Int) (x14 : List Int) (x15 : List Int) (x16 : List Int) (x17 : List Int) (x18 : List (Int × Bool)) (x19 : List Y1) (x20 : List (Int × Bool × Bool × (List (Int × Int)))) (x21 : List (Int × Int × (List Int))) (x22 : List Y3) (x23 : List Y6) (x24 : List ((List Y15) × Int × (List Int) × Int)) (x25 : List Int) (x26 : Int) (x27 : Int) : Option ((Y14 × (List (Int × Bool) × List Y1 × List (Int × Bool × Bool × (List (Int × Int))) × List (Int × Int × (List Int)) × List Y3 × List Y6 × List ((List Y15) × Int × (List Int) × Int) × List Int × Unit) × Y11 × Y11 × Y11 × Y11 × (List (Int × Bool) × List Y1 × List (Int × Bool × Bool × (List (Int × Int))) × List (Int × Int × (List Int)) × List Y3 × List Y6 × List ((List Y15) × Int × (List Int) × Int) × List Int × Unit) × Int × Int × Unit) ⊕ (Y14 × (List (Int × Bool) × List Y1 × List (Int × Bool × Bool × (List (Int × Int))) × List (Int × Int × (List Int)) × List Y3 × List Y6 × List ((List Y15) × Int × (List Int) × Int) × List Int × Unit) × Y11 × Y11 × Y11 × Y11 × (List (Int × Bool) × List Y1 × List (Int × Bool × Bool × (List (Int × Int))) × List (Int × Int × (List Int)) × List Y3 × List Y6 × List ((List Y15) × Int × (List Int) × Int) × List Int × Unit) × Unit)) :=
 bif decide (x27 > 0) then
  (gav x0 x1 ((x23.length : Nat) : Int) 2).bind fun y7 =>
  (gab y7.2.1.1 y7.2.1.2.1 9).bind fun y8 =>
  (gab y8.2.1.1 y8.2.1.2.1 2).bind fun y9 =>
  (gaw_2095690 y9.2.1.1 y9.2.1.2.1 x2 x3 x4 x5 x6 x7 x8 x9 x10 x11 x12 x13 x14 x15 x16 x17 x18 x19 x20 x21 x22 x23 x24 x25 x26 x27 y7.1 y8.1 ([] : List Int) y9.1 0).bind fun z0 =>
  bif decide ((z0.2.2.2.2.2.2.1.2.2.2.2.2.2.1.length + 1) * 64 ≤ 140737488355328) then
  some (.inl (z0.1, z0.2.1, z0.2.2.1, z0.2.2.2.1, z0.2.2.2.2.1, z0.2.2.2.2.2.1, (z0.2.2.2.2.2.2.1.1, z0.2.2.2.2.2.2.1.2.1, z0.2.2.2.2.2.2.1.2.2.1, z0.2.2.2.2.2.2.1.2.2.2.1, z0.2.2.2.2.2.2.1.2.2.2.2.1, z0.2.2.2.2.2.2.1.2.2.2.2.2.1, (z0.2.2.2.2.2.2.1.2.2.2.2.2.2.1 ++ ([(z0.2.2.2.2.2.2.2.2.2.1.1, z0.2.2.2.2.2.2.2.2.2.1.2.1, z0.2.2.2.2.2.2.2.2.2.1.2.2.1, z0.2.2.2.2.2.2.2.2.2.1.2.2.2.1)] : List ((List Y15) × Int × (List Int) × Int))), z0.2.2.2.2.2.2.1.2.2.2.2.2.2.2.1, ()), z0.2.2.2.2.2.2.2.1, (IntKind.wrap .i64 (z0.2.2.2.2.2.2.2.2.1 - 1)), ()))
  else none
 else
  some (.inr ((x0, x1, ()), (x2, x3, x4, x5, x6, x7, x8, x9, ()), (x10, x11, ()), (x12, x13, ()), (x14, x15, ()), (x16, x17, ()), (x18, x19, x20, x21, x22, x23, x24, x25, ()), ()))
def gaw_8186F (x : (Y14 × (List (Int × Bool) × List Y1 × List (Int × Bool × Bool × (List (Int × Int))) × List (Int × Int × (List Int)) × List Y3 × List Y6 × List ((List Y15) × Int × (List Int) × Int) × List Int × Unit) × Y11 × Y11 × Y11 × Y11 × (List (Int × Bool) × List Y1 × List (Int × Bool × Bool × (List (Int × Int))) × List (Int × Int × (List Int)) × List Y3 × List Y6 × List ((List Y15) × Int × (List Int) × Int) × List Int × Unit) × Int × Int × Unit)) : Option ((Y14 × (List (Int × Bool) × List Y1 × List (Int × Bool × Bool × (List (Int × Int))) × List (Int × Int × (List Int)) × List Y3 × List Y6 × List ((List Y15) × Int × (List Int) × Int) × List Int × Unit) × Y11 × Y11 × Y11 × Y11 × (List (Int × Bool) × List Y1 × List (Int × Bool × Bool × (List (Int × Int))) × List (Int × Int × (List Int)) × List Y3 × List Y6 × List ((List Y15) × Int × (List Int) × Int) × List Int × Unit) × Int × Int × Unit) ⊕ (Y14 × (List (Int × Bool) × List Y1 × List (Int × Bool × Bool × (List (Int × Int))) × List (Int × Int × (List Int)) × List Y3 × List Y6 × List ((List Y15) × Int × (List Int) × Int) × List Int × Unit) × Y11 × Y11 × Y11 × Y11 × (List (Int × Bool) × List Y1 × List (Int × Bool × Bool × (List (Int × Int))) × List (Int × Int × (List Int)) × List Y3 × List Y6 × List ((List Y15) × Int × (List Int) × Int) × List Int × Unit) × Unit)) := gaw_8186r x.1.1 x.1.2.1 x.2.1.1 x.2.1.2.1 x.2.1.2.2.1 x.2.1.2.2.2.1 x.2.1.2.2.2.2.1 x.2.1.2.2.2.2.2.1 x.2.1.2.2.2.2.2.2.1 x.2.1.2.2.2.2.2.2.2.1 x.2.2.1.1 x.2.2.1.2.1 x.2.2.2.1.1 x.2.2.2.1.2.1 x.2.2.2.2.1.1 x.2.2.2.2.1.2.1 x.2.2.2.2.2.1.1 x.2.2.2.2.2.1.2.1 x.2.2.2.2.2.2.1.1 x.2.2.2.2.2.2.1.2.1 x.2.2.2.2.2.2.1.2.2.1 x.2.2.2.2.2.2.1.2.2.2.1 x.2.2.2.2.2.2.1.2.2.2.2.1 x.2.2.2.2.2.2.1.2.2.2.2.2.1 x.2.2.2.2.2.2.1.2.2.2.2.2.2.1 x.2.2.2.2.2.2.1.2.2.2.2.2.2.2.1 x.2.2.2.2.2.2.2.1 x.2.2.2.2.2.2.2.2.1
def gaw_8186 (x0 : List Int) (x1 : Int) (x2 : List (Int × Bool)) (x3 : List Y1) (x4 : List (Int × Bool × Bool × (List (Int × Int)))) (x5 : List (Int × Int × (List Int))) (x6 : List Y3) (x7 : List Y6) (x8 : List ((List Y15) × Int × (List Int) × Int)) (x9 : List Int) (x10 : List Int) (x11 : List Int) (x12 : List Int) (x13 : List Int) (x14 : List Int) (x15 : List Int) (x16 : List Int) (x17 : List Int) (x18 : List (Int × Bool)) (x19 : List Y1) (x20 : List (Int × Bool × Bool × (List (Int × Int)))) (x21 : List (Int × Int × (List Int))) (x22 : List Y3) (x23 : List Y6) (x24 : List ((List Y15) × Int × (List Int) × Int)) (x25 : List Int) (x26 : Int) (x27 : Int) : Option (Y14 × (List (Int × Bool) × List Y1 × List (Int × Bool × Bool × (List (Int × Int))) × List (Int × Int × (List Int)) × List Y3 × List Y6 × List ((List Y15) × Int × (List Int) × Int) × List Int × Unit) × Y11 × Y11 × Y11 × Y11 × (List (Int × Bool) × List Y1 × List (Int × Bool × Bool × (List (Int × Int))) × List (Int × Int × (List Int)) × List Y3 × List Y6 × List ((List Y15) × Int × (List Int) × Int) × List Int × Unit) × Unit) := loopL gaw_8186F ((x0, x1, ()), (x2, x3, x4, x5, x6, x7, x8, x9, ()), (x10, x11, ()), (x12, x13, ()), (x14, x15, ()), (x16, x17, ()), (x18, x19, x20, x21, x22, x23, x24, x25, ()), x26, x27, ())
def gaw_31 (x0 : List Int) (x1 : Int) (x2 : List (Int × Bool)) (x3 : List Y1) (x4 : List (Int × Bool × Bool × (List (Int × Int)))) (x5 : List (Int × Int × (List Int))) (x6 : List Y3) (x7 : List Y6) (x8 : List ((List Y15) × Int × (List Int) × Int)) (x9 : List Int) (x10 : List Int) (x11 : List Int) (x12 : List Int) (x13 : List Int) (x14 : List Y1) (x15 : List (Int × Bool × Bool × (List (Int × Int)))) (x16 : List (Int × Int × (List Int))) (x17 : List Int) (x18 : List Int) (x19 : List Int) (x20 : List Int) (x21 : List (Int × Bool)) (x22 : List Y1) (x23 : List (Int × Bool × Bool × (List (Int × Int)))) (x24 : List (Int × Int × (List Int))) (x25 : List Y3) (x26 : List Y6) (x27 : List ((List Y15) × Int × (List Int) × Int)) (x28 : List Int) : Option (Y14 × (List (Int × Bool) × List Y1 × List (Int × Bool × Bool × (List (Int × Int))) × List (Int × Int × (List Int)) × List Y3 × List Y6 × List ((List Y15) × Int × (List Int) × Int) × List Int × Unit) × Y11 × Y11 × Unit) :=
 (gad x0 x1 1 4).bind fun y10 =>
 (gaw_506 y10.2.1.1 y10.2.1.2.1 x2 x3 x4 x5 x6 x7 x8 x9 x10 x11 x12 x13 x14 x15 x16 x17 x18 x19 x20 x21 x22 x23 x24 x25 x26 x27 x28 ((x22.length : Nat) : Int) y10.1).bind fun z1 =>
 (gaw_1018 z1.1.1 z1.1.2.1 z1.2.1.1 z1.2.1.2.1 z1.2.1.2.2.1 z1.2.1.2.2.2.1 z1.2.1.2.2.2.2.1 z1.2.1.2.2.2.2.2.1 z1.2.1.2.2.2.2.2.2.1 z1.2.1.2.2.2.2.2.2.2.1 z1.2.2.1.1 z1.2.2.1.2.1 z1.2.2.2.1.1 z1.2.2.2.1.2.1 z1.2.2.2.2.1.2.1 z1.2.2.2.2.1.2.2.1 z1.2.2.2.2.1.2.2.2.1 z1.2.2.2.2.2.1.1 z1.2.2.2.2.2.1.2.1 z1.2.2.2.2.2.2.1.1 z1.2.2.2.2.2.2.1.2.1 z1.2.2.2.2.2.2.2.1.1 z1.2.2.2.2.2.2.2.1.2.1 z1.2.2.2.2.2.2.2.1.2.2.1 z1.2.2.2.2.2.2.2.1.2.2.2.1 z1.2.2.2.2.2.2.2.1.2.2.2.2.1 z1.2.2.2.2.2.2.2.1.2.2.2.2.2.1 z1.2.2.2.2.2.2.2.1.2.2.2.2.2.2.1 z1.2.2.2.2.2.2.2.1.2.2.2.2.2.2.2.1 z1.2.2.2.2.2.2.2.2.1 0).bind fun z2 =>
 (gaw_2042 z2.1.1 z2.1.2.1 z2.2.1.1 z2.2.1.2.1 z2.2.1.2.2.1 z2.2.1.2.2.2.1 z2.2.1.2.2.2.2.1 z2.2.1.2.2.2.2.2.1 z2.2.1.2.2.2.2.2.2.1 z2.2.1.2.2.2.2.2.2.2.1 z2.2.2.1.1 z2.2.2.1.2.1 z2.2.2.2.1.1 z2.2.2.2.1.2.1 z2.2.2.2.2.1.2.1 z2.2.2.2.2.1.2.2.1 z2.2.2.2.2.1.2.2.2.1 z2.2.2.2.2.2.1.1 z2.2.2.2.2.2.1.2.1 z2.2.2.2.2.2.2.1.1 z2.2.2.2.2.2.2.1.2.1 z2.2.2.2.2.2.2.2.1.1 z2.2.2.2.2.2.2.2.1.2.1 z2.2.2.2.2.2.2.2.1.2.2.1 z2.2.2.2.2.2.2.2.1.2.2.2.1 z2.2.2.2.2.2.2.2.1.2.2.2.2.1 z2.2.2.2.2.2.2.2.1.2.2.2.2.2.1 z2.2.2.2.2.2.2.2.1.2.2.2.2.2.2.1 z2.2.2.2.2.2.2.2.1.2.2.2.2.2.2.2.1 z2.2.2.2.2.2.2.2.2.1 0).bind fun z3 =>
 (gad z3.1.1 z3.1.2.1 1 4).bind fun y11 =>
 (gaw_4090 y11.2.1.1 y11.2.1.2.1 z3.2.1.1 z3.2.1.2.1 z3.2.1.2.2.1 z3.2.1.2.2.2.1 z3.2.1.2.2.2.2.1 z3.2.1.2.2.2.2.2.1 z3.2.1.2.2.2.2.2.2.1 z3.2.1.2.2.2.2.2.2.2.1 z3.2.2.1.1 z3.2.2.1.2.1 z3.2.2.2.1.1 z3.2.2.2.1.2.1 z3.2.2.2.2.1.1 z3.2.2.2.2.1.2.1 z3.2.2.2.2.2.1.1 z3.2.2.2.2.2.1.2.1 z3.2.2.2.2.2.2.1.1 z3.2.2.2.2.2.2.1.2.1 z3.2.2.2.2.2.2.1.2.2.1 z3.2.2.2.2.2.2.1.2.2.2.1 z3.2.2.2.2.2.2.1.2.2.2.2.1 z3.2.2.2.2.2.2.1.2.2.2.2.2.1 z3.2.2.2.2.2.2.1.2.2.2.2.2.2.1 z3.2.2.2.2.2.2.1.2.2.2.2.2.2.2.1 z3.2.2.2.2.2.2.2.1 y11.1).bind fun z4 =>
 (gad z4.1.1 z4.1.2.1 1 3).bind fun y12 =>
 (gaw_8186 y12.2.1.1 y12.2.1.2.1 z4.2.1.1 z4.2.1.2.1 z4.2.1.2.2.1 z4.2.1.2.2.2.1 z4.2.1.2.2.2.2.1 z4.2.1.2.2.2.2.2.1 z4.2.1.2.2.2.2.2.2.1 z4.2.1.2.2.2.2.2.2.2.1 z4.2.2.1.1 z4.2.2.1.2.1 z4.2.2.2.1.1 z4.2.2.2.1.2.1 z4.2.2.2.2.1.1 z4.2.2.2.2.1.2.1 z4.2.2.2.2.2.1.1 z4.2.2.2.2.2.1.2.1 z4.2.2.2.2.2.2.1.1 z4.2.2.2.2.2.2.1.2.1 z4.2.2.2.2.2.2.1.2.2.1 z4.2.2.2.2.2.2.1.2.2.2.1 z4.2.2.2.2.2.2.1.2.2.2.2.1 z4.2.2.2.2.2.2.1.2.2.2.2.2.1 z4.2.2.2.2.2.2.1.2.2.2.2.2.2.1 z4.2.2.2.2.2.2.1.2.2.2.2.2.2.2.1 z4.2.2.2.2.2.2.2.1 y12.1).bind fun z5 =>
 some (z5.1, (z5.2.2.2.2.2.2.1.1, z5.2.2.2.2.2.2.1.2.1, z5.2.2.2.2.2.2.1.2.2.1, z5.2.2.2.2.2.2.1.2.2.2.1, z5.2.2.2.2.2.2.1.2.2.2.2.1, z5.2.2.2.2.2.2.1.2.2.2.2.2.1, z5.2.2.2.2.2.2.1.2.2.2.2.2.2.1, ([1, 2, 1, 3] : List Int), ()), z5.2.2.2.2.1, z5.2.2.2.2.2.1, ())
def gaw (x0 : List Int) (x1 : Int) : Option (((List (Int × Bool) × List Y1 × List (Int × Bool × Bool × (List (Int × Int))) × List (Int × Int × (List Int)) × List Y3 × List Y6 × List ((List Y15) × Int × (List Int) × Int) × List Int × Unit) × Y11 × Y11 × Unit) × (Y14 × Unit)) :=
 (gaq x0 x1).bind fun y13 =>
 bif (((y13.1.1.2.1.length : Nat) : Int) == 0) then
  bif decide ((y13.1.1.1.length + 1) * 16 ≤ 140737488355328) then
  bif decide ((y13.1.2.2.1.1.length + 1) * 8 ≤ 140737488355328) then
  (gaw_31 y13.2.1.1 y13.2.1.2.1 ([] : List (Int × Bool)) ([] : List Y1) ([] : List (Int × Bool × Bool × (List (Int × Int)))) ([] : List (Int × Int × (List Int))) ([] : List Y3) ([] : List Y6) ([] : List ((List Y15) × Int × (List Int) × Int)) ([] : List Int) ([] : List Int) ([] : List Int) ([] : List Int) ([] : List Int) y13.1.1.2.1 y13.1.1.2.2.1 y13.1.1.2.2.2.1 y13.1.2.1.1 y13.1.2.1.2.1 (y13.1.2.2.1.1 ++ ([0] : List Int)) ([0] : List Int) (y13.1.1.1 ++ ([(0, true)] : List (Int × Bool))) ([(0, (IntKind.wrap .i64 ((((y13.1.1.1 ++ ([(0, true)] : List (Int × Bool))).length : Nat) : Int) - 1)), 10, 4, false, false, 1, 1, 0, 0)] : List Y1) y13.1.1.2.2.1 y13.1.1.2.2.2.1 ([] : List Y3) ([] : List Y6) ([] : List ((List Y15) × Int × (List Int) × Int)) ([] : List Int)).bind fun z6 =>
  some (z6.2, (z6.1, ()))
  else none
  else none
 else
  (gaw_31 y13.2.1.1 y13.2.1.2.1 ([] : List (Int × Bool)) ([] : List Y1) ([] : List (Int × Bool × Bool × (List (Int × Int)))) ([] : List (Int × Int × (List Int))) ([] : List Y3) ([] : List Y6) ([] : List ((List Y15) × Int × (List Int) × Int)) ([] : List Int) ([] : List Int) ([] : List Int) ([] : List Int) ([] : List Int) y13.1.1.2.1 y13.1.1.2.2.1 y13.1.1.2.2.2.1 y13.1.2.1.1 y13.1.2.1.2.1 y13.1.2.2.1.1 y13.1.2.2.1.2.1 y13.1.1.1 y13.1.1.2.1 y13.1.1.2.2.1 y13.1.1.2.2.2.1 ([] : List Y3) ([] : List Y6) ([] : List ((List Y15) × Int × (List Int) × Int)) ([] : List Int)).bind fun z7 =>
  some (z7.2, (z7.1, ()))
def gax (x0 : Int) (x1 : Int) (x2 : Int) : Option (Bool × Unit) :=
 (bif decide (x1 ≤ x0) then some (decide (x0 ≤ x2)) else some false).bind fun b0 =>
 some (b0, ())
def gay (x0 : Int) (x1 : Int) (x2 : Int) (x3 : Int) (x4 : Int) (x5 : Int) (x6 : Int) (x7 : Int) : Option (Int × Unit) :=
 (gax x1 1 6).bind fun y0 =>
 bif (!y0.1) then
  some (5, ())
 else
  (gax x0 0 255).bind fun y1 =>
  (bif (!y1.1) then some true else some (decide (x2 < 0))).bind fun b0 =>
  (bif b0 then some true else ((gax x3 (-1000000) 1000000).bind fun y2 => some (!y2.1))).bind fun b1 =>
  (bif b1 then some true else ((gax x4 (-1000000) 1000000).bind fun y3 => some (!y3.1))).bind fun b2 =>
  (bif b2 then some true else ((gax x5 0 1000000).bind fun y4 => some (!y4.1))).bind fun b3 =>
  (bif b3 then some true else ((gax x6 0 1000000).bind fun y5 => some (!y5.1))).bind fun b4 =>
  (bif b4 then some true else ((gax x7 1 1000000).bind fun y6 => some (!y6.1))).bind fun b5 =>
  bif b5 then
   some (1, ())
  else
   some (0, ())
def gaz : Option (Y16 × Unit) :=
 some (((-1125899906842624), 1125899906842624, ()), ())
def gba (x0 : Int) : Option (Bool × Unit) :=
 (bif (x0 == 1) then some true else some (x0 == 2)).bind fun b0 =>
 some (b0, ())
def gbb_471 (x0 : Int) (x1 : Int) (x2 : Int) (x3 : Int) : Option (Y16 × Unit) :=
 bif decide (x0 > x3) then
  (gaz).bind fun y0 =>
  some (y0.1, ())
 else
  some ((x0, x0, ()), ())
def gbb_235 (x0 : Int) (x1 : Int) (x2 : Int) (x3 : Int) (x4 : Int) (x5 : Int) (x6 : Int) (x7 : Int) (x8 : Int) (x9 : Int) (x10 : Int) (x11 : Int) : Option (Y16 × Unit) :=
 bif (x2 == 6) then
  (gbb_471 x0 x9 x10 5).bind fun z0 =>
  some z0
 else
  (gbb_471 x0 x9 x10 x11).bind fun z1 =>
  some z1
def gbb (x0 : Int) (x1 : Int) (x2 : Int) (x3 : Int) (x4 : Int) (x5 : Int) (x6 : Int) (x7 : Int) (x8 : Int) : Option (Y16 × Unit) :=
 (gay x0 x1 x2 x3 x4 x5 x6 x7).bind fun y1 =>
 (bif (y1.1 != 0) then some true else ((gax x8 0 65535).bind fun y2 => some (!y2.1))).bind fun b0 =>
 bif b0 then
  (gaz).bind fun y3 =>
  some (y3.1, ())
 else
  (gar x1).bind fun y4 =>
  bif y4.1 then
   bif (x1 == 5) then
    (gbb_235 x8 x0 x1 x2 x3 x4 x5 x6 x7 0 0 2).bind fun z2 =>
    some (z2.1, ())
   else
    (gbb_235 x8 x0 x1 x2 x3 x4 x5 x6 x7 0 0 1).bind fun z3 =>
    some (z3.1, ())
  else
   (gaj (IntKind.wrap .i64 (x4 * x8)) 1000).bind fun y5 =>
   (gak (IntKind.wrap .i64 (x4 * x8)) 1000).bind fun y6 =>
   (gba x1).bind fun y7 =>
   bif y7.1 then
    some (((bif decide (0 > (IntKind.wrap .i64 ((IntKind.wrap .i64 (x3 + y5.1)) - x5))) then 0 else (IntKind.wrap .i64 ((IntKind.wrap .i64 (x3 + y5.1)) - x5))), (bif decide (0 > (IntKind.wrap .i64 ((IntKind.wrap .i64 (x3 + y6.1)) + x5))) then 0 else (IntKind.wrap .i64 ((IntKind.wrap .i64 (x3 + y6.1)) + x5))), ()), ())
   else
    some (((IntKind.wrap .i64 ((IntKind.wrap .i64 (x3 + y5.1)) - x5)), (IntKind.wrap .i64 ((IntKind.wrap .i64 (x3 + y6.1)) + x5)), ()), ())
def gbc_29903 (x0 : List Int) (x1 : Int) (x2 : List Y15) (x3 : Int) (x4 : Int) (x5 : Int) (x6 : Int) (x7 : List Y3) (x8 : Int) (x9 : Int) : Option Y21 :=
 bif decide ((x2.length + 1) * 32 ≤ 140737488355328) then
 some ((x0, x1, ()), (x2 ++ ([(x3, x4, x5, x6)] : List Y15)), x7, x8, x9, ())
 else none
def gbc_14951 (x0 : List Int) (x1 : Int) (x2 : List Y15) (x3 : Int) (x4 : Int) (x5 : Int) (x6 : Int) (x7 : List Y3) (x8 : Int) (x9 : Int) : Option Y21 :=
 (gac x0 x1 5).bind fun y0 =>
 bif y0.1 then
  (gbc_29903 y0.2.1.1 y0.2.1.2.1 x2 (-1) 0 0 0 x7 x8 x9).bind fun z0 =>
  some z0
 else
  (gbc_29903 y0.2.1.1 y0.2.1.2.1 x2 x3 x4 x5 x6 x7 x8 x9).bind fun z1 =>
  some z1
def gbc_58r (x0 : List Int) (x1 : Int) (x2 : List Y15) (x3 : List Y3) (x4 : Int) (x5 : Int) : Option (Y21 ⊕ Y38) :=
 bif decide (x5 < x4) then
  (idx x3 x5).bind fun v0 =>
  (gab x0 x1 20).bind fun y1 =>
  (gab y1.2.1.1 y1.2.1.2.1 200).bind fun y2 =>
  (gbb v0.1 v0.2.1 v0.2.2.1 v0.2.2.2.1 v0.2.2.2.2.1 v0.2.2.2.2.2.1 v0.2.2.2.2.2.2.1 v0.2.2.2.2.2.2.2 y2.1).bind fun y3 =>
  (gar v0.2.1).bind fun y4 =>
  bif y4.1 then
   (gab y2.2.1.1 y2.2.1.2.1 3).bind fun y5 =>
   (gbb v0.1 v0.2.1 v0.2.2.1 v0.2.2.2.1 v0.2.2.2.2.1 v0.2.2.2.2.2.1 v0.2.2.2.2.2.2.1 v0.2.2.2.2.2.2.2 y5.1).bind fun y6 =>
   (gbc_14951 y5.2.1.1 y5.2.1.2.1 x2 x5 y1.1 y6.1.1 y6.1.2.1 x3 x4 x5).bind fun z2 =>
   some (.inl (z2.1, z2.2.1, z2.2.2.1, z2.2.2.2.1, (IntKind.wrap .i64 (z2.2.2.2.2.1 + 1)), ()))
  else
   (gbc_14951 y2.2.1.1 y2.2.1.2.1 x2 x5 y1.1 y3.1.1 y3.1.2.1 x3 x4 x5).bind fun z3 =>
   some (.inl (z3.1, z3.2.1, z3.2.2.1, z3.2.2.2.1, (IntKind.wrap .i64 (z3.2.2.2.2.1 + 1)), ()))
 else
  some (.inr ((x0, x1, ()), x2, ()))
def gbc_58F (x : Y21) : Option (Y21 ⊕ Y38) := gbc_58r x.1.1 x.1.2.1 x.2.1 x.2.2.1 x.2.2.2.1 x.2.2.2.2.1
def gbc_58 (x0 : List Int) (x1 : Int) (x2 : List Y15) (x3 : List Y3) (x4 : Int) (x5 : Int) : Option Y38 := loopL gbc_58F ((x0, x1, ()), x2, x3, x4, x5, ())
def gbc (x0 : List Int) (x1 : Int) (x2 : List (Int × Bool)) (x3 : List Y1) (x4 : List (Int × Bool × Bool × (List (Int × Int)))) (x5 : List (Int × Int × (List Int))) (x6 : List Y3) (x7 : List Y6) (x8 : List ((List Y15) × Int × (List Int) × Int)) (x9 : List Int) : Option (List Y15 × (Y14 × Unit)) :=
 (gbc_58 x0 x1 ([] : List Y15) x6 ((x6.length : Nat) : Int) 0).bind fun z4 =>
 some (z4.2.1, (z4.1, ()))
def gbd : Option (Y12 × Unit) :=
 some ((true, (-1), 0, ()), ())
def gbe_7475 (x0 : List Int) (x1 : Int) (x2 : List Y17) (x3 : Bool) (x4 : Int) (x5 : Int) (x6 : Int) (x7 : Int) : Option Y25 :=
 bif decide ((x2.length + 1) * 24 ≤ 140737488355328) then
 some ((x0, x1, ()), (x2 ++ ([(x3, x4, x5)] : List Y17)), x6, x7, ())
 else none
def gbe_58r (x0 : List Int) (x1 : Int) (x2 : List Y17) (x3 : Int) (x4 : Int) : Option (Y25 ⊕ Y39) :=
 bif decide (x4 < x3) then
  (gbd).bind fun y0 =>
  (gab x0 x1 3).bind fun y1 =>
  bif (y1.1 == 1) then
   (gbe_7475 y1.2.1.1 y1.2.1.2.1 x2 false y0.1.2.1 y0.1.2.2.1 x3 x4).bind fun z0 =>
   some (.inl (z0.1, z0.2.1, z0.2.2.1, (IntKind.wrap .i64 (z0.2.2.2.1 + 1)), ()))
  else
   bif (y1.1 == 2) then
    (gab y1.2.1.1 y1.2.1.2.1 9).bind fun y2 =>
    (gbe_7475 y2.2.1.1 y2.2.1.2.1 x2 y0.1.1 y2.1 9 x3 x4).bind fun z1 =>
    some (.inl (z1.1, z1.2.1, z1.2.2.1, (IntKind.wrap .i64 (z1.2.2.2.1 + 1)), ()))
   else
    (gbe_7475 y1.2.1.1 y1.2.1.2.1 x2 y0.1.1 y0.1.2.1 y0.1.2.2.1 x3 x4).bind fun z2 =>
    some (.inl (z2.1, z2.2.1, z2.2.2.1, (IntKind.wrap .i64 (z2.2.2.2.1 + 1)), ()))
 else
  some (.inr ((x0, x1, ()), x2, ()))
def gbe_58F (x : Y25) : Option (Y25 ⊕ Y39) := gbe_58r x.1.1 x.1.2.1 x.2.1 x.2.2.1 x.2.2.2.1
def gbe_58 (x0 : List Int) (x1 : Int) (x2 : List Y17) (x3 : Int) (x4 : Int) : Option Y39 := loopL gbe_58F ((x0, x1, ()), x2, x3, x4, ())
def gbe (x0 : List Int) (x1 : Int) (x2 : List (Int × Bool)) (x3 : List Y1) (x4 : List (Int × Bool × Bool × (List (Int × Int)))) (x5 : List (Int × Int × (List Int))) (x6 : List Y3) (x7 : List Y6) (x8 : List ((List Y15) × Int × (List Int) × Int)) (x9 : List Int) : Option (List Y17 × (Y14 × Unit)) :=
 (gbe_58 x0 x1 ([] : List Y17) ((x7.length : Nat) : Int) 0).bind fun z3 =>
 some (z3.2.1, (z3.1, ()))
def gbf_58r (x0 : List Int) (x1 : Int) (x2 : List Int) (x3 : List (Int × Int)) (x4 : Int) : Option ((Y14 × List Int × List (Int × Int) × Int × Unit) ⊕ (Y14 × List (Int × Int) × Unit)) :=
 bif decide (x4 < ((x2.length : Nat) : Int)) then
  (idx x2 x4).bind fun v0 =>
  (gab x0 x1 12).bind fun y0 =>
  (idx x2 x4).bind fun v1 =>
  (gab y0.2.1.1 y0.2.1.2.1 12).bind fun y1 =>
  bif decide ((x3.length + 1) * 16 ≤ 140737488355328) then
  some (.inl (y1.2.1, x2, (x3 ++ ([((IntKind.wrap .i64 (v0 - y0.1)), (IntKind.wrap .i64 (v1 + y1.1)))] : List (Int × Int))), (IntKind.wrap .i64 (x4 + 1)), ()))
  else none
 else
  some (.inr ((x0, x1, ()), x3, ()))
def gbf_58F (x : (Y14 × List Int × List (Int × Int) × Int × Unit)) : Option ((Y14 × List Int × List (Int × Int) × Int × Unit) ⊕ (Y14 × List (Int × Int) × Unit)) := gbf_58r x.1.1 x.1.2.1 x.2.1 x.2.2.1 x.2.2.2.1
def gbf_58 (x0 : List Int) (x1 : Int) (x2 : List Int) (x3 : List (Int × Int)) (x4 : Int) : Option (Y14 × List (Int × Int) × Unit) := loopL gbf_58F ((x0, x1, ()), x2, x3, x4, ())
def gbf (x0 : List Int) (x1 : Int) (x2 : List Int) : Option (List (Int × Int) × (Y14 × Unit)) :=
 (gbf_58 x0 x1 x2 ([] : List (Int × Int)) 0).bind fun z0 =>
 some (z0.2.1, (z0.1, ()))
def gbg (x0 : Int) (x1 : Int) (x2 : Int) (x3 : Int) : Option (Bool × Unit) :=
 (bif decide (x2 ≤ x0) then some (decide (x0 ≤ x1)) else some false).bind fun b0 =>
 (bif b0 then some (decide (x1 ≤ x3)) else some false).bind fun b1 =>
 some (b1, ())
def gbh_58r (x0 : List (Int × Bool)) (x1 : List Y1) (x2 : List (Int × Bool)) (x3 : Int) (x4 : Int) : Option (((List (Int × Bool) × List Y1 × Unit) × List (Int × Bool) × Int × Int × Unit) ⊕ ((Int × Unit) ⊕ ((List (Int × Bool) × List Y1 × Unit) × Unit))) :=
 bif decide (x4 < x3) then
  (idx x2 x4).bind fun v0 =>
  (bif decide (v0.1 < (-10000)) then some true else some (decide (v0.1 > 10000))).bind fun b0 =>
  bif b0 then
   some (.inr (.inl (1, ())))
  else
   some (.inl ((x0, x1, ()), x2, x3, (IntKind.wrap .i64 (x4 + 1)), ()))
 else
  some (.inr (.inr ((x0, x1, ()), ())))
def gbh_58F (x : ((List (Int × Bool) × List Y1 × Unit) × List (Int × Bool) × Int × Int × Unit)) : Option (((List (Int × Bool) × List Y1 × Unit) × List (Int × Bool) × Int × Int × Unit) ⊕ ((Int × Unit) ⊕ ((List (Int × Bool) × List Y1 × Unit) × Unit))) := gbh_58r x.1.1 x.1.2.1 x.2.1 x.2.2.1 x.2.2.2.1
def gbh_58 (x0 : List (Int × Bool)) (x1 : List Y1) (x2 : List (Int × Bool)) (x3 : Int) (x4 : Int) : Option ((Int × Unit) ⊕ ((List (Int × Bool) × List Y1 × Unit) × Unit)) := loopL gbh_58F ((x0, x1, ()), x2, x3, x4, ())
def gbh_250r (x0 : Int) (x1 : List Y1) (x2 : Int) (x3 : Int) : Option (Y28 ⊕ ((Int × Unit) ⊕ (Unit))) :=
 bif decide (x3 < x2) then
  (idx x1 x3).bind fun v1 =>
  (bif decide (v1.1 < 0) then some true else some (decide (v1.1 ≥ x0))).bind fun b1 =>
  (bif b1 then some true else some (decide (v1.2.1 < 0))).bind fun b2 =>
  (bif b2 then some true else some (decide (v1.2.1 ≥ x0))).bind fun b3 =>
  (bif b3 then some true else some (v1.1 == v1.2.1)).bind fun b4 =>
  bif b4 then
   some (.inr (.inl (4, ())))
  else
   (bif decide (v1.2.2.1 < 1) then some true else some (decide (v1.2.2.1 > 100000))).bind fun b5 =>
   (bif b5 then some true else some (decide (v1.2.2.2.1 < 1))).bind fun b6 =>
   (bif b6 then some true else some (decide (v1.2.2.2.1 > 1000))).bind fun b7 =>
   bif b7 then
    some (.inr (.inl (1, ())))
   else
    (gbg v1.2.2.2.2.2.2.1 v1.2.2.2.2.2.2.2.1 1 262144).bind fun y0 =>
    (bif (!y0.1) then some true else ((gbg v1.2.2.2.2.2.2.2.2.1 v1.2.2.2.2.2.2.2.2.2 (-2199023255552) 2199023255552).bind fun y1 => some (!y1.1))).bind fun b8 =>
    bif b8 then
     some (.inr (.inl (1, ())))
    else
     some (.inl (x0, x1, x2, (IntKind.wrap .i64 (x3 + 1)), ()))
 else
  some (.inr (.inr ()))
def gbh_250F (x : Y28) : Option (Y28 ⊕ ((Int × Unit) ⊕ (Unit))) := gbh_250r x.1 x.2.1 x.2.2.1 x.2.2.2.1
def gbh_250 (x0 : Int) (x1 : List Y1) (x2 : Int) (x3 : Int) : Option ((Int × Unit) ⊕ (Unit)) := loopL gbh_250F (x0, x1, x2, x3, ())
def gbh (x0 : List (Int × Bool)) (x1 : List Y1) : Option (Int × Unit) :=
 (bif decide (((x0.length : Nat) : Int) > 64) then some true else some (decide (((x1.length : Nat) : Int) > 128))).bind fun b9 =>
 bif b9 then
  some (2, ())
 else
  (gbh_58 x0 x1 x0 ((x0.length : Nat) : Int) 0).bind fun z0 =>
  sumElim z0 (fun z1 =>
   some (z1.1, ()))
   (fun z2 =>
   (gbh_250 ((z2.1.1.length : Nat) : Int) z2.1.2.1 ((z2.1.2.1.length : Nat) : Int) 0).bind fun z3 =>
   sumElim z3 (fun z4 =>
    some (z4.1, ()))
    (fun z5 =>
    some (0, ())))
def gbi_122r (x0 : Int) (x1 : Bool) (x2 : Bool) (x3 : List (Int × Int)) (x4 : List (Int × Int)) (x5 : Int) (x6 : Int) : Option (((Int × Bool × Bool × List (Int × Int) × Unit) × List (Int × Int) × Int × Int × Unit) ⊕ ((Int × Unit) ⊕ (Unit))) :=
 bif decide (x6 < x5) then
  (idx x4 x6).bind fun v0 =>
  (bif decide (v0.1 < (-1048576)) then some true else some (decide (v0.1 > 1048576))).bind fun b0 =>
  (bif b0 then some true else some (decide (v0.2 < 0))).bind fun b1 =>
  (bif b1 then some true else some (decide (v0.2 > 2199023255552))).bind fun b2 =>
  bif b2 then
   some (.inr (.inl (1, ())))
  else
   (bif decide (x6 > 0) then ((idx x3 (IntKind.wrap .i64 (x6 - 1))).bind fun v1 => ((bif decide (v0.1 ≤ v1.1) then some true else ((idx x3 (IntKind.wrap .i64 (x6 - 1))).bind fun v2 => some (decide (v0.2 > v2.2)))).bind fun b3 => some b3)) else some false).bind fun b4 =>
   bif b4 then
    some (.inr (.inl (14, ())))
   else
    some (.inl ((x0, x1, x2, x3, ()), x4, x5, (IntKind.wrap .i64 (x6 + 1)), ()))
 else
  some (.inr (.inr ()))
def gbi_122F (x : ((Int × Bool × Bool × List (Int × Int) × Unit) × List (Int × Int) × Int × Int × Unit)) : Option (((Int × Bool × Bool × List (Int × Int) × Unit) × List (Int × Int) × Int × Int × Unit) ⊕ ((Int × Unit) ⊕ (Unit))) := gbi_122r x.1.1 x.1.2.1 x.1.2.2.1 x.1.2.2.2.1 x.2.1 x.2.2.1 x.2.2.2.1
def gbi_122 (x0 : Int) (x1 : Bool) (x2 : Bool) (x3 : List (Int × Int)) (x4 : List (Int × Int)) (x5 : Int) (x6 : Int) : Option ((Int × Unit) ⊕ (Unit)) := loopL gbi_122F ((x0, x1, x2, x3, ()), x4, x5, x6, ())
def gbi (x0 : Int) (x1 : Bool) (x2 : Bool) (x3 : List (Int × Int)) : Option (Int × Unit) :=
 bif decide (x0 < 0) then
  some (4, ())
 else
  (bif decide (((x3.length : Nat) : Int) < 1) then some true else some (decide (((x3.length : Nat) : Int) > 8))).bind fun b5 =>
  bif b5 then
   some (2, ())
  else
   (gbi_122 x0 x1 x2 x3 x3 ((x3.length : Nat) : Int) 0).bind fun z0 =>
   sumElim z0 (fun z1 =>
    some (z1.1, ()))
    (fun z2 =>
    some (0, ()))
def gbj_239226r (x0 : List (Int × Int × (List Int))) (x1 : Int) (x2 : Int) (x3 : Int) (x4 : List Int) (x5 : Bool) (x6 : List (Int × Int × (List Int))) (x7 : Int) (x8 : Int) (x9 : List Int) (x10 : Int) (x11 : Int) : Option ((List (Int × Int × (List Int)) × Int × Y9 × Bool × List (Int × Int × (List Int)) × Int × Int × List Int × Int × Int × Unit) ⊕ ((Int × Unit) ⊕ (List (Int × Int × (List Int)) × Int × Y9 × Bool × List (Int × Int × (List Int)) × Int × Int × Unit))) :=
 bif decide (x11 < x10) then
  (idx x9 x11).bind fun v0 =>
  (bif decide (v0 < 0) then some true else some (decide (v0 > 262144))).bind fun b0 =>
  bif b0 then
   some (.inr (.inl (1, ())))
  else
   (bif x5 then ((bif (x11 == 0) then some true else ((idx x4 (IntKind.wrap .i64 (x11 - 1))).bind fun v1 => some (decide (v0 < v1)))).bind fun b1 => some b1) else some false).bind fun b2 =>
   some (.inl (x0, x1, (x2, x3, x4, ()), b2, x6, x7, x8, x9, x10, (IntKind.wrap .i64 (x11 + 1)), ()))
 else
  some (.inr (.inr (x0, x1, (x2, x3, x4, ()), x5, x6, x7, x8, ())))
def gbj_239226F (x : (List (Int × Int × (List Int)) × Int × Y9 × Bool × List (Int × Int × (List Int)) × Int × Int × List Int × Int × Int × Unit)) : Option ((List (Int × Int × (List Int)) × Int × Y9 × Bool × List (Int × Int × (List Int)) × Int × Int × List Int × Int × Int × Unit) ⊕ ((Int × Unit) ⊕ (List (Int × Int × (List Int)) × Int × Y9 × Bool × List (Int × Int × (List Int)) × Int × Int × Unit))) := gbj_239226r x.1 x.2.1 x.2.2.1.1 x.2.2.1.2.1 x.2.2.1.2.2.1 x.2.2.2.1 x.2.2.2.2.1 x.2.2.2.2.2.1 x.2.2.2.2.2.2.1 x.2.2.2.2.2.2.2.1 x.2.2.2.2.2.2.2.2.1 x.2.2.2.2.2.2.2.2.2.1
def gbj_239226 (x0 : List (Int × Int × (List Int))) (x1 : Int) (x2 : Int) (x3 : Int) (x4 : List Int) (x5 : Bool) (x6 : List (Int × Int × (List Int))) (x7 : Int) (x8 : Int) (x9 : List Int) (x10 : Int) (x11 : Int) : Option ((Int × Unit) ⊕ (List (Int × Int × (List Int)) × Int × Y9 × Bool × List (Int × Int × (List Int)) × Int × Int × Unit)) := loopL gbj_239226F (x0, x1, (x2, x3, x4, ()), x5, x6, x7, x8, x9, x10, x11, ())
def gbj_58r (x0 : List (Int × Int × (List Int))) (x1 : List (Int × Int × (List Int))) (x2 : Int) (x3 : Int) : Option ((List (Int × Int × (List Int)) × List (Int × Int × (List Int)) × Int × Int × Unit) ⊕ ((Int × Unit) ⊕ (Unit))) :=
 bif decide (x3 < x2) then
  (idx x1 x3).bind fun v2 =>
  bif decide (v2.1 < 0) then
   some (.inr (.inl (4, ())))
  else
   (bif decide (((v2.2.2.length : Nat) : Int) < 2) then some true else some (decide (((v2.2.2.length : Nat) : Int) > 6))).bind fun b3 =>
   bif b3 then
    some (.inr (.inl (2, ())))
   else
    (gbj_239226 x0 x3 v2.1 v2.2.1 v2.2.2 true x1 x2 x3 v2.2.2 ((v2.2.2.length : Nat) : Int) 0).bind fun z0 =>
    sumElim z0 (fun z1 =>
     some (.inr (.inl z1)))
     (fun z2 =>
     bif (!z2.2.2.2.1) then
      some (.inr (.inl (15, ())))
     else
      (bif (z2.2.2.1.2.1 != (-1)) then ((bif decide (z2.2.2.1.2.1 < 0) then some true else some (decide (z2.2.2.1.2.1 ≥ ((z2.1.length : Nat) : Int)))).bind fun b4 => ((bif b4 then some true else some (z2.2.2.1.2.1 == z2.2.1)).bind fun b5 => ((bif b5 then some true else ((idx z2.1 z2.2.2.1.2.1).bind fun v3 => some (v3.2.1 != z2.2.1))).bind fun b6 => some b6))) else some false).bind fun b7 =>
      bif b7 then
       some (.inr (.inl (15, ())))
      else
       some (.inl (z2.1, z2.2.2.2.2.1, z2.2.2.2.2.2.1, (IntKind.wrap .i64 (z2.2.2.2.2.2.2.1 + 1)), ())))
 else
  some (.inr (.inr ()))
def gbj_58F (x : (List (Int × Int × (List Int)) × List (Int × Int × (List Int)) × Int × Int × Unit)) : Option ((List (Int × Int × (List Int)) × List (Int × Int × (List Int)) × Int × Int × Unit) ⊕ ((Int × Unit) ⊕ (Unit))) := gbj_58r x.1 x.2.1 x.2.2.1 x.2.2.2.1
def gbj_58 (x0 : List (Int × Int × (List Int))) (x1 : List (Int × Int × (List Int))) (x2 : Int) (x3 : Int) : Option ((Int × Unit) ⊕ (Unit)) := loopL gbj_58F (x0, x1, x2, x3, ())
def gbj (x0 : List (Int × Int × (List Int))) : Option (Int × Unit) :=
 bif decide (((x0.length : Nat) : Int) > 16) then
  some (2, ())
 else
  (gbj_58 x0 x0 ((x0.length : Nat) : Int) 0).bind fun z3 =>
  sumElim z3 (fun z4 =>
   some (z4.1, ()))
   (fun z5 =>
   some (0, ()))
def gbk_122r (x0 : List (Int × Bool)) (x1 : List Y1) (x2 : List (Int × Bool × Bool × (List (Int × Int)))) (x3 : List (Int × Int × (List Int))) (x4 : List (Int × Bool × Bool × (List (Int × Int)))) (x5 : Int) (x6 : Int) : Option (((List (Int × Bool) × List Y1 × List (Int × Bool × Bool × (List (Int × Int))) × List (Int × Int × (List Int)) × Unit) × List (Int × Bool × Bool × (List (Int × Int))) × Int × Int × Unit) ⊕ ((Int × Unit) ⊕ ((List (Int × Bool) × List Y1 × List (Int × Bool × Bool × (List (Int × Int))) × List (Int × Int × (List Int)) × Unit) × Unit))) :=
 bif decide (x6 < x5) then
  (idx x4 x6).bind fun v0 =>
  (gbi v0.1 v0.2.1 v0.2.2.1 v0.2.2.2).bind fun y0 =>
  bif (y0.1 != 0) then
   some (.inr (.inl (y0.1, ())))
  else
   bif decide (v0.1 ≥ ((x1.length : Nat) : Int)) then
    some (.inr (.inl (4, ())))
   else
    some (.inl ((x0, x1, x2, x3, ()), x4, x5, (IntKind.wrap .i64 (x6 + 1)), ()))
 else
  some (.inr (.inr ((x0, x1, x2, x3, ()), ())))
def gbk_122F (x : ((List (Int × Bool) × List Y1 × List (Int × Bool × Bool × (List (Int × Int))) × List (Int × Int × (List Int)) × Unit) × List (Int × Bool × Bool × (List (Int × Int))) × Int × Int × Unit)) : Option (((List (Int × Bool) × List Y1 × List (Int × Bool × Bool × (List (Int × Int))) × List (Int × Int × (List Int)) × Unit) × List (Int × Bool × Bool × (List (Int × Int))) × Int × Int × Unit) ⊕ ((Int × Unit) ⊕ ((List (Int × Bool) × List Y1 × List (Int × Bool × Bool × (List (Int × Int))) × List (Int × Int × (List Int)) × Unit) × Unit))) := gbk_122r x.1.1 x.1.2.1 x.1.2.2.1 x.1.2.2.2.1 x.2.1 x.2.2.1 x.2.2.2.1
def gbk_122 (x0 : List (Int × Bool)) (x1 : List Y1) (x2 : List (Int × Bool × Bool × (List (Int × Int)))) (x3 : List (Int × Int × (List Int))) (x4 : List (Int × Bool × Bool × (List (Int × Int)))) (x5 : Int) (x6 : Int) : Option ((Int × Unit) ⊕ ((List (Int × Bool) × List Y1 × List (Int × Bool × Bool × (List (Int × Int))) × List (Int × Int × (List Int)) × Unit) × Unit)) := loopL gbk_122F ((x0, x1, x2, x3, ()), x4, x5, x6, ())
def gbk_506r (x0 : List (Int × Bool)) (x1 : List Y1) (x2 : List (Int × Bool × Bool × (List (Int × Int)))) (x3 : List (Int × Int × (List Int))) (x4 : List (Int × Int × (List Int))) (x5 : Int) (x6 : Int) : Option (((List (Int × Bool) × List Y1 × List (Int × Bool × Bool × (List (Int × Int))) × List (Int × Int × (List Int)) × Unit) × List (Int × Int × (List Int)) × Int × Int × Unit) ⊕ ((Int × Unit) ⊕ (Unit))) :=
 bif decide (x6 < x5) then
  (idx x4 x6).bind fun v1 =>
  bif decide (v1.1 ≥ ((x1.length : Nat) : Int)) then
   some (.inr (.inl (4, ())))
  else
   some (.inl ((x0, x1, x2, x3, ()), x4, x5, (IntKind.wrap .i64 (x6 + 1)), ()))
 else
  some (.inr (.inr ()))
def gbk_506F (x : ((List (Int × Bool) × List Y1 × List (Int × Bool × Bool × (List (Int × Int))) × List (Int × Int × (List Int)) × Unit) × List (Int × Int × (List Int)) × Int × Int × Unit)) : Option (((List (Int × Bool) × List Y1 × List (Int × Bool × Bool × (List (Int × Int))) × List (Int × Int × (List Int)) × Unit) × List (Int × Int × (List Int)) × Int × Int × Unit) ⊕ ((Int × Unit) ⊕ (Unit))) := gbk_506r x.1.1 x.1.2.1 x.1.2.2.1 x.1.2.2.2.1 x.2.1 x.2.2.1 x.2.2.2.1
def gbk_506 (x0 : List (Int × Bool)) (x1 : List Y1) (x2 : List (Int × Bool × Bool × (List (Int × Int)))) (x3 : List (Int × Int × (List Int))) (x4 : List (Int × Int × (List Int))) (x5 : Int) (x6 : Int) : Option ((Int × Unit) ⊕ (Unit)) := loopL gbk_506F ((x0, x1, x2, x3, ()), x4, x5, x6, ())
def gbk (x0 : List (Int × Bool)) (x1 : List Y1) (x2 : List (Int × Bool × Bool × (List (Int × Int)))) (x3 : List (Int × Int × (List Int))) : Option (Int × Unit) :=
 (gbh x0 x1).bind fun y1 =>
 bif (y1.1 != 0) then
  some (y1.1, ())
 else
  bif decide (((x2.length : Nat) : Int) > 8) then
   some (2, ())
  else
   (gbk_122 x0 x1 x2 x3 x2 ((x2.length : Nat) : Int) 0).bind fun z0 =>
   sumElim z0 (fun z1 =>
    some (z1.1, ()))
    (fun z2 =>
    (gbj z2.1.2.2.2.1).bind fun y2 =>
    bif (y2.1 != 0) then
     some (y2.1, ())
    else
     (gbk_506 z2.1.1 z2.1.2.1 z2.1.2.2.1 z2.1.2.2.2.1 z2.1.2.2.2.1 ((z2.1.2.2.2.1.length : Nat) : Int) 0).bind fun z3 =>
     sumElim z3 (fun z4 =>
      some (z4.1, ()))
      (fun z5 =>
      some (0, ())))
def gbl_26r (x0 : Int) (x1 : Int) (x2 : List Int) (x3 : Int) (x4 : Int) : Option (Y5 ⊕ ((Bool × Unit) ⊕ (Unit))) :=
 bif decide (x4 < x3) then
  (idx x2 x4).bind fun v0 =>
  (bif decide (v0 < x0) then some true else some (decide (v0 > x1))).bind fun b0 =>
  bif b0 then
   some (.inr (.inl (false, ())))
  else
   some (.inl (x0, x1, x2, x3, (IntKind.wrap .i64 (x4 + 1)), ()))
 else
  some (.inr (.inr ()))
def gbl_26F (x : Y5) : Option (Y5 ⊕ ((Bool × Unit) ⊕ (Unit))) := gbl_26r x.1 x.2.1 x.2.2.1 x.2.2.2.1 x.2.2.2.2.1
def gbl_26 (x0 : Int) (x1 : Int) (x2 : List Int) (x3 : Int) (x4 : Int) : Option ((Bool × Unit) ⊕ (Unit)) := loopL gbl_26F (x0, x1, x2, x3, x4, ())
def gbl (x0 : Int) (x1 : Int) (x2 : List Int) : Option (Bool × Unit) :=
 (gbl_26 x0 x1 x2 ((x2.length : Nat) : Int) 0).bind fun z0 =>
 sumElim z0 (fun z1 =>
  some (z1.1, ()))
  (fun z2 =>
  some (true, ()))
def gbm (x0 : Int) (x1 : Int) (x2 : Int) (x3 : Int) (x4 : Int) (x5 : Int) (x6 : Int) (x7 : Int) : Option (Int × Unit) :=
 (gbl 1 6 ([x1] : List Int)).bind fun y0 =>
 bif (!y0.1) then
  some (5, ())
 else
  (gbl 0 255 ([x0] : List Int)).bind fun y1 =>
  (bif (!y1.1) then some true else some (decide (x2 < 0))).bind fun b0 =>
  (bif b0 then some true else ((gbl (-1000000) 1000000 ([x3, x4] : List Int)).bind fun y2 => some (!y2.1))).bind fun b1 =>
  bif b1 then
   some (1, ())
  else
   (gbl 0 1000000 ([x5, x6] : List Int)).bind fun y3 =>
   (bif (!y3.1) then some true else ((gbl 1 1000000 ([x7] : List Int)).bind fun y4 => some (!y4.1))).bind fun b2 =>
   bif b2 then
    some (1, ())
   else
    some (0, ())
def gbn (x0 : Int) (x1 : Int) : Option (Bool × Unit) :=
 (bif decide (x0 ≥ 0) then some (decide (x0 < x1)) else some false).bind fun b0 =>
 some (b0, ())
def gbo_108158r (x0 : List (Int × Bool)) (x1 : List Y1) (x2 : List (Int × Bool × Bool × (List (Int × Int)))) (x3 : List (Int × Int × (List Int))) (x4 : List Y3) (x5 : List Y6) (x6 : List ((List Y15) × Int × (List Int) × Int)) (x7 : List Int) (x8 : Int) (x9 : Int) (x10 : Int) (x11 : Int) (x12 : Int) (x13 : Int) (x14 : Int) (x15 : Int) (x16 : List Y3) (x17 : Int) (x18 : Int) (x19 : List Y3) (x20 : Int) (x21 : Int) : Option (((List (Int × Bool) × List Y1 × List (Int × Bool × Bool × (List (Int × Int))) × List (Int × Int × (List Int)) × List Y3 × List Y6 × List ((List Y15) × Int × (List Int) × Int) × List Int × Unit) × Y2 × List Y3 × Int × Int × List Y3 × Int × Int × Unit) ⊕ ((Int × Unit) ⊕ ((List (Int × Bool) × List Y1 × List (Int × Bool × Bool × (List (Int × Int))) × List (Int × Int × (List Int)) × List Y3 × List Y6 × List ((List Y15) × Int × (List Int) × Int) × List Int × Unit) × List Y3 × Int × Int × Unit))) :=
 bif decide (x21 < x20) then
  (idx x19 x21).bind fun v0 =>
  bif (v0.1 == x8) then
   some (.inr (.inl (9, ())))
  else
   some (.inl ((x0, x1, x2, x3, x4, x5, x6, x7, ()), (x8, x9, x10, x11, x12, x13, x14, x15, ()), x16, x17, x18, x19, x20, (IntKind.wrap .i64 (x21 + 1)), ()))
 else
  some (.inr (.inr ((x0, x1, x2, x3, x4, x5, x6, x7, ()), x16, x17, x18, ())))
def gbo_108158F (x : ((List (Int × Bool) × List Y1 × List (Int × Bool × Bool × (List (Int × Int))) × List (Int × Int × (List Int)) × List Y3 × List Y6 × List ((List Y15) × Int × (List Int) × Int) × List Int × Unit) × Y2 × List Y3 × Int × Int × List Y3 × Int × Int × Unit)) : Option (((List (Int × Bool) × List Y1 × List (Int × Bool × Bool × (List (Int × Int))) × List (Int × Int × (List Int)) × List Y3 × List Y6 × List ((List Y15) × Int × (List Int) × Int) × List Int × Unit) × Y2 × List Y3 × Int × Int × List Y3 × Int × Int × Unit) ⊕ ((Int × Unit) ⊕ ((List (Int × Bool) × List Y1 × List (Int × Bool × Bool × (List (Int × Int))) × List (Int × Int × (List Int)) × List Y3 × List Y6 × List ((List Y15) × Int × (List Int) × Int) × List Int × Unit) × List Y3 × Int × Int × Unit))) := gbo_108158r x.1.1 x.1.2.1 x.1.2.2.1 x.1.2.2.2.1 x.1.2.2.2.2.1 x.1.2.2.2.2.2.1 x.1.2.2.2.2.2.2.1 x.1.2.2.2.2.2.2.2.1 x.2.1.1 x.2.1.2.1 x.2.1.2.2.1 x.2.1.2.2.2.1 x.2.1.2.2.2.2.1 x.2.1.2.2.2.2.2.1 x.2.1.2.2.2.2.2.2.1 x.2.1.2.2.2.2.2.2.2.1 x.2.2.1 x.2.2.2.1 x.2.2.2.2.1 x.2.2.2.2.2.1 x.2.2.2.2.2.2.1 x.2.2.2.2.2.2.2.1
def gbo_108158 (x0 : List (Int × Bool)) (x1 : List Y1) (x2 : List (Int × Bool × Bool × (List (Int × Int)))) (x3 : List (Int × Int × (List Int))) (x4 : List Y3) (x5 : List Y6) (x6 : List ((List Y15) × Int × (List Int) × Int)) (x7 : List Int) (x8 : Int) (x9 : Int) (x10 : Int) (x11 : Int) (x12 : Int) (x13 : Int) (x14 : Int) (x15 : Int) (x16 : List Y3) (x17 : Int) (x18 : Int) (x19 : List Y3) (x20 : Int) (x21 : Int) : Option ((Int × Unit) ⊕ ((List (Int × Bool) × List Y1 × List (Int × Bool × Bool × (List (Int × Int))) × List (Int × Int × (List Int)) × List Y3 × List Y6 × List ((List Y15) × Int × (List Int) × Int) × List Int × Unit) × List Y3 × Int × Int × Unit)) := loopL gbo_108158F ((x0, x1, x2, x3, x4, x5, x6, x7, ()), (x8, x9, x10, x11, x12, x13, x14, x15, ()), x16, x17, x18, x19, x20, x21, ())
def gbo_13519 (x0 : List (Int × Bool)) (x1 : List Y1) (x2 : List (Int × Bool × Bool × (List (Int × Int)))) (x3 : List (Int × Int × (List Int))) (x4 : List Y3) (x5 : List Y6) (x6 : List ((List Y15) × Int × (List Int) × Int)) (x7 : List Int) (x8 : Int) (x9 : Int) (x10 : Int) (x11 : Int) (x12 : Int) (x13 : Int) (x14 : Int) (x15 : Int) (x16 : Int) (x17 : Int) (x18 : List Y3) (x19 : Int) (x20 : Int) : Option ((Int × Unit) ⊕ ((List (Int × Bool) × List Y1 × List (Int × Bool × Bool × (List (Int × Int))) × List (Int × Int × (List Int)) × List Y3 × List Y6 × List ((List Y15) × Int × (List Int) × Int) × List Int × Unit) × List Y3 × Int × Int × Unit)) :=
 (gbn x11 x17).bind fun y0 =>
 bif (!y0.1) then
  some (.inl (9, ()))
 else
  bif (decide (0 ≤ x8) && decide (x8 ≤ ((x4.length : Nat) : Int))) then
  (gbo_108158 x0 x1 x2 x3 x4 x5 x6 x7 x9 x10 x11 x12 x13 x14 x15 x16 x18 x19 x20 ((x4).take x8.toNat) ((((x4).take x8.toNat).length : Nat) : Int) 0).bind fun z0 =>
  sumElim z0 (fun z1 =>
   some (.inl z1))
   (fun z2 =>
   some (.inr z2))
  else none
def gbo_26r (x0 : List (Int × Bool)) (x1 : List Y1) (x2 : List (Int × Bool × Bool × (List (Int × Int)))) (x3 : List (Int × Int × (List Int))) (x4 : List Y3) (x5 : List Y6) (x6 : List ((List Y15) × Int × (List Int) × Int)) (x7 : List Int) (x8 : List Y3) (x9 : Int) (x10 : Int) : Option (((List (Int × Bool) × List Y1 × List (Int × Bool × Bool × (List (Int × Int))) × List (Int × Int × (List Int)) × List Y3 × List Y6 × List ((List Y15) × Int × (List Int) × Int) × List Int × Unit) × List Y3 × Int × Int × Unit) ⊕ ((Int × Unit) ⊕ (Unit))) :=
 bif decide (x10 < x9) then
  (idx x8 x10).bind fun v1 =>
  (gbm v1.1 v1.2.1 v1.2.2.1 v1.2.2.2.1 v1.2.2.2.2.1 v1.2.2.2.2.2.1 v1.2.2.2.2.2.2.1 v1.2.2.2.2.2.2.2).bind fun y1 =>
  bif (y1.1 != 0) then
   some (.inr (.inl (y1.1, ())))
  else
   bif (v1.2.1 == 5) then
    (gbo_13519 x0 x1 x2 x3 x4 x5 x6 x7 x10 v1.1 v1.2.1 v1.2.2.1 v1.2.2.2.1 v1.2.2.2.2.1 v1.2.2.2.2.2.1 v1.2.2.2.2.2.2.1 v1.2.2.2.2.2.2.2 ((x2.length : Nat) : Int) x8 x9 x10).bind fun z3 =>
    sumElim z3 (fun z4 =>
     some (.inr (.inl z4)))
     (fun z5 =>
     some (.inl (z5.1, z5.2.1, z5.2.2.1, (IntKind.wrap .i64 (z5.2.2.2.1 + 1)), ())))
   else
    bif (v1.2.1 == 6) then
     (gbo_13519 x0 x1 x2 x3 x4 x5 x6 x7 x10 v1.1 v1.2.1 v1.2.2.1 v1.2.2.2.1 v1.2.2.2.2.1 v1.2.2.2.2.2.1 v1.2.2.2.2.2.2.1 v1.2.2.2.2.2.2.2 ((x3.length : Nat) : Int) x8 x9 x10).bind fun z6 =>
     sumElim z6 (fun z7 =>
      some (.inr (.inl z7)))
      (fun z8 =>
      some (.inl (z8.1, z8.2.1, z8.2.2.1, (IntKind.wrap .i64 (z8.2.2.2.1 + 1)), ())))
    else
     (gbo_13519 x0 x1 x2 x3 x4 x5 x6 x7 x10 v1.1 v1.2.1 v1.2.2.1 v1.2.2.2.1 v1.2.2.2.2.1 v1.2.2.2.2.2.1 v1.2.2.2.2.2.2.1 v1.2.2.2.2.2.2.2 ((x1.length : Nat) : Int) x8 x9 x10).bind fun z9 =>
     sumElim z9 (fun z10 =>
      some (.inr (.inl z10)))
      (fun z11 =>
      some (.inl (z11.1, z11.2.1, z11.2.2.1, (IntKind.wrap .i64 (z11.2.2.2.1 + 1)), ())))
 else
  some (.inr (.inr ()))
def gbo_26F (x : ((List (Int × Bool) × List Y1 × List (Int × Bool × Bool × (List (Int × Int))) × List (Int × Int × (List Int)) × List Y3 × List Y6 × List ((List Y15) × Int × (List Int) × Int) × List Int × Unit) × List Y3 × Int × Int × Unit)) : Option (((List (Int × Bool) × List Y1 × List (Int × Bool × Bool × (List (Int × Int))) × List (Int × Int × (List Int)) × List Y3 × List Y6 × List ((List Y15) × Int × (List Int) × Int) × List Int × Unit) × List Y3 × Int × Int × Unit) ⊕ ((Int × Unit) ⊕ (Unit))) := gbo_26r x.1.1 x.1.2.1 x.1.2.2.1 x.1.2.2.2.1 x.1.2.2.2.2.1 x.1.2.2.2.2.2.1 x.1.2.2.2.2.2.2.1 x.1.2.2.2.2.2.2.2.1 x.2.1 x.2.2.1 x.2.2.2.1
def gbo_26 (x0 : List (Int × Bool)) (x1 : List Y1) (x2 : List (Int × Bool × Bool × (List (Int × Int)))) (x3 : List (Int × Int × (List Int))) (x4 : List Y3) (x5 : List Y6) (x6 : List ((List Y15) × Int × (List Int) × Int)) (x7 : List Int) (x8 : List Y3) (x9 : Int) (x10 : Int) : Option ((Int × Unit) ⊕ (Unit)) := loopL gbo_26F ((x0, x1, x2, x3, x4, x5, x6, x7, ()), x8, x9, x10, ())
def gbo (x0 : List (Int × Bool)) (x1 : List Y1) (x2 : List (Int × Bool × Bool × (List (Int × Int)))) (x3 : List (Int × Int × (List Int))) (x4 : List Y3) (x5 : List Y6) (x6 : List ((List Y15) × Int × (List Int) × Int)) (x7 : List Int) : Option (Int × Unit) :=
 (gbo_26 x0 x1 x2 x3 x4 x5 x6 x7 x4 ((x4.length : Nat) : Int) 0).bind fun z12 =>
 sumElim z12 (fun z13 =>
  some (z13.1, ()))
  (fun z14 =>
  some (0, ()))
def gbp (x0 : Int) (x1 : Int) (x2 : Int) : Option (Int × Unit) :=
 (bif decide (x0 > 1000000) then some true else some (decide (x1 < 0))).bind fun b0 =>
 (bif b0 then some true else some (decide (x1 ≥ x0))).bind fun b1 =>
 (bif b1 then some true else some (decide (x2 < 0))).bind fun b2 =>
 (bif b2 then some true else some (decide (x2 > 100000))).bind fun b3 =>
 bif b3 then
  some (1, ())
 else
  some (0, ())
def gbq_53 (x0 : List (Int × Bool)) (x1 : List Y1) (x2 : List (Int × Bool × Bool × (List (Int × Int)))) (x3 : List (Int × Int × (List Int))) (x4 : List Y3) (x5 : List Y6) (x6 : List ((List Y15) × Int × (List Int) × Int)) (x7 : List Int) (x8 : Int) (x9 : Int) (x10 : Int) (x11 : Int) (x12 : Int) (x13 : Int) (x14 : Int) (x15 : Bool) : Option ((Int × Unit) ⊕ (Y4 × Unit)) :=
 bif x15 then
  (gbn x9 ((x4.length : Nat) : Int)).bind fun y0 =>
  bif (!y0.1) then
   some (.inl (9, ()))
  else
   some (.inr ((x8, x9, x10, x11, x12, x13, ()), ()))
 else
  bif (x14 == 3) then
   (gbn x9 ((x4.length : Nat) : Int)).bind fun y1 =>
   (bif (!y1.1) then some true else ((idx x4 x9).bind fun v0 => some (v0.2.1 != 5))).bind fun b0 =>
   bif b0 then
    some (.inl (9, ()))
   else
    some (.inr ((x8, x9, x10, x11, x12, x13, ()), ()))
  else
   bif (x14 == 5) then
    (gbn x9 ((x1.length : Nat) : Int)).bind fun y2 =>
    bif (!y2.1) then
     some (.inl (4, ()))
    else
     some (.inr ((x8, x9, x10, x11, x12, x13, ()), ()))
   else
    some (.inl (5, ()))
def gbq_7 (x0 : Int) (x1 : Int) (x2 : Int) (x3 : Int) (x4 : Int) (x5 : Int) : Option (Int × Unit) :=
 (bif decide (x2 < 0) then some true else some (decide (x2 > 1099511627776))).bind fun b1 =>
 bif b1 then
  some (1, ())
 else
  bif (x0 == 1) then
   (gbp x3 x4 x5).bind fun y3 =>
   some (y3.1, ())
  else
   some (0, ())
def gbq (x0 : List (Int × Bool)) (x1 : List Y1) (x2 : List (Int × Bool × Bool × (List (Int × Int)))) (x3 : List (Int × Int × (List Int))) (x4 : List Y3) (x5 : List Y6) (x6 : List ((List Y15) × Int × (List Int) × Int)) (x7 : List Int) (x8 : Int) (x9 : Int) (x10 : Int) (x11 : Int) (x12 : Int) (x13 : Int) : Option (Int × Unit) :=
 bif (x8 == 1) then
  (gbq_53 x0 x1 x2 x3 x4 x5 x6 x7 x8 x9 x10 x11 x12 x13 x8 (x8 == 1)).bind fun z0 =>
  sumElim z0 (fun z1 =>
   some (z1.1, ()))
   (fun z2 =>
   (gbq_7 z2.1.1 z2.1.2.1 z2.1.2.2.1 z2.1.2.2.2.1 z2.1.2.2.2.2.1 z2.1.2.2.2.2.2.1).bind fun z3 =>
   some (z3.1, ()))
 else
  bif (x8 == 2) then
   (gbq_53 x0 x1 x2 x3 x4 x5 x6 x7 x8 x9 x10 x11 x12 x13 x8 (x8 == 2)).bind fun z4 =>
   sumElim z4 (fun z5 =>
    some (z5.1, ()))
    (fun z6 =>
    (gbq_7 z6.1.1 z6.1.2.1 z6.1.2.2.1 z6.1.2.2.2.1 z6.1.2.2.2.2.1 z6.1.2.2.2.2.2.1).bind fun z7 =>
    some (z7.1, ()))
  else
   (gbq_53 x0 x1 x2 x3 x4 x5 x6 x7 x8 x9 x10 x11 x12 x13 x8 (x8 == 4)).bind fun z8 =>
   sumElim z8 (fun z9 =>
    some (z9.1, ()))
    (fun z10 =>
    (gbq_7 z10.1.1 z10.1.2.1 z10.1.2.2.1 z10.1.2.2.2.1 z10.1.2.2.2.2.1 z10.1.2.2.2.2.2.1).bind fun z11 =>
    some (z11.1, ()))
def gbr_3935 (rec : Y40 → Option (Y13 × Unit)) (x0 : List Y15) (x1 : Int) (x2 : Int) (x3 : Int) (x4 : Int) (x5 : Int) (x6 : Bool) : Option (Y13 ⊕ (Unit)) :=
 bif x6 then
  (rec (x0, (IntKind.wrap .i64 (x1 - 1)), ())).bind fun y0 =>
  (bif (!y0.1.2.2.1) then some true else some (x3 != 0)).bind fun b0 =>
  (bif b0 then some true else some (x5 != (IntKind.wrap .i64 (x1 - 1)))).bind fun b1 =>
  (bif b1 then some true else some (x4 != (IntKind.wrap .i64 (y0.1.1 - 1)))).bind fun b2 =>
  bif b2 then
   some (.inl (0, 0, false, ()))
  else
   (rec (x0, (IntKind.wrap .i64 (y0.1.1 - 1)), ())).bind fun y1 =>
   some (.inl (y1.1.1, (IntKind.wrap .i64 ((bif decide (y0.1.2.1 > y1.1.2.1) then y0.1.2.1 else y1.1.2.1) + 1)), y1.1.2.2.1, ()))
 else
  some (.inr ())
def gbrb (rec : Y40 → Option (Y13 × Unit)) (x0 : List Y15) (x1 : Int) : Option (Y13 × Unit) :=
 bif decide (x1 < 0) then
  some ((0, 0, false, ()), ())
 else
  (idx x0 x1).bind fun v0 =>
  bif (v0.1 == 1) then
   (bif (v0.2.2.1 == 0) then some (v0.2.2.2 == 0) else some false).bind fun b3 =>
   (bif b3 then some (decide (v0.2.1 ≥ 0)) else some false).bind fun b4 =>
   (bif b4 then some (decide (v0.2.1 < 64)) else some false).bind fun b5 =>
   some ((x1, 1, b5, ()), ())
  else
   bif (v0.1 == 2) then
    (rec (x0, (IntKind.wrap .i64 (x1 - 1)), ())).bind fun y2 =>
    (bif y2.1.2.2.1 then some (v0.2.1 == 0) else some false).bind fun b6 =>
    (bif b6 then some (v0.2.2.2 == 0) else some false).bind fun b7 =>
    (bif b7 then some (v0.2.2.1 == (IntKind.wrap .i64 (x1 - 1))) else some false).bind fun b8 =>
    some ((y2.1.1, (IntKind.wrap .i64 (y2.1.2.1 + 1)), b8, ()), ())
   else
    bif (v0.1 == 3) then
     (gbr_3935 rec x0 x1 v0.1 v0.2.1 v0.2.2.1 v0.2.2.2 (v0.1 == 3)).bind fun z0 =>
     sumElim z0 (fun z1 =>
      some (z1, ()))
      (fun z2 =>
      some ((0, 0, false, ()), ()))
    else
     (gbr_3935 rec x0 x1 v0.1 v0.2.1 v0.2.2.1 v0.2.2.2 (v0.1 == 4)).bind fun z3 =>
     sumElim z3 (fun z4 =>
      some (z4, ()))
      (fun z5 =>
      some ((0, 0, false, ()), ()))
def gbri : Nat → Y40 → Option (Y13 × Unit)
 | 0 => fun _ => none
 | n + 1 => fun x => gbrb (gbri n) x.1 x.2.1
def gbr (x0 : List Y15) (x1 : Int) : Option (Y13 × Unit) := gbri 1000000 (x0, x1, ())
def gbs (x0 : List Y15) : Option (Bool × Unit) :=
 (bif decide (((x0.length : Nat) : Int) < 1) then some true else some (decide (((x0.length : Nat) : Int) > 64))).bind fun b0 =>
 bif b0 then
  some (false, ())
 else
  (gbr x0 (IntKind.wrap .i64 (((x0.length : Nat) : Int) - 1))).bind fun y0 =>
  (bif y0.1.2.2.1 then some (y0.1.1 == 0) else some false).bind fun b1 =>
  (bif b1 then some (decide (y0.1.2.1 ≤ 16)) else some false).bind fun b2 =>
  some (b2, ())
def gbt_58r (x0 : Int) (x1 : List Y15) (x2 : Int) (x3 : Int) : Option (Y26 ⊕ ((Int × Unit) ⊕ (Unit))) :=
 bif decide (x3 < x2) then
  (idx x1 x3).bind fun v0 =>
  (bif (v0.1 == 1) then some (decide (v0.2.1 ≥ x0)) else some false).bind fun b0 =>
  bif b0 then
   some (.inr (.inl (1, ())))
  else
   some (.inl (x0, x1, x2, (IntKind.wrap .i64 (x3 + 1)), ()))
 else
  some (.inr (.inr ()))
def gbt_58F (x : Y26) : Option (Y26 ⊕ ((Int × Unit) ⊕ (Unit))) := gbt_58r x.1 x.2.1 x.2.2.1 x.2.2.2.1
def gbt_58 (x0 : Int) (x1 : List Y15) (x2 : Int) (x3 : Int) : Option ((Int × Unit) ⊕ (Unit)) := loopL gbt_58F (x0, x1, x2, x3, ())
def gbt (x0 : List Y15) (x1 : Int) : Option (Int × Unit) :=
 (gbs x0).bind fun y0 =>
 bif (!y0.1) then
  some (18, ())
 else
  (gbt_58 x1 x0 ((x0.length : Nat) : Int) 0).bind fun z0 =>
  sumElim z0 (fun z1 =>
   some (z1.1, ()))
   (fun z2 =>
   some (0, ()))
def gbu_122r (x0 : List (Int × Bool)) (x1 : List Y1) (x2 : List (Int × Bool × Bool × (List (Int × Int)))) (x3 : List (Int × Int × (List Int))) (x4 : List Y3) (x5 : List Y6) (x6 : List ((List Y15) × Int × (List Int) × Int)) (x7 : List Int) (x8 : List Y15) (x9 : Int) (x10 : List Int) (x11 : Int) (x12 : List Int) (x13 : Int) (x14 : Int) : Option (((List (Int × Bool) × List Y1 × List (Int × Bool × Bool × (List (Int × Int))) × List (Int × Int × (List Int)) × List Y3 × List Y6 × List ((List Y15) × Int × (List Int) × Int) × List Int × Unit) × Y23 × List Int × Int × Int × Unit) ⊕ ((Int × Unit) ⊕ (Unit))) :=
 bif decide (x14 < x13) then
  (idx x12 x14).bind fun v0 =>
  (gbn v0 ((x1.length : Nat) : Int)).bind fun y0 =>
  (bif (!y0.1) then some true else ((bif decide (x14 > 0) then ((idx x10 (IntKind.wrap .i64 (x14 - 1))).bind fun v1 => some (decide (v0 ≤ v1))) else some false).bind fun b0 => some b0)).bind fun b1 =>
  bif b1 then
   some (.inr (.inl (4, ())))
  else
   some (.inl ((x0, x1, x2, x3, x4, x5, x6, x7, ()), (x8, x9, x10, x11, ()), x12, x13, (IntKind.wrap .i64 (x14 + 1)), ()))
 else
  some (.inr (.inr ()))
def gbu_122F (x : ((List (Int × Bool) × List Y1 × List (Int × Bool × Bool × (List (Int × Int))) × List (Int × Int × (List Int)) × List Y3 × List Y6 × List ((List Y15) × Int × (List Int) × Int) × List Int × Unit) × Y23 × List Int × Int × Int × Unit)) : Option (((List (Int × Bool) × List Y1 × List (Int × Bool × Bool × (List (Int × Int))) × List (Int × Int × (List Int)) × List Y3 × List Y6 × List ((List Y15) × Int × (List Int) × Int) × List Int × Unit) × Y23 × List Int × Int × Int × Unit) ⊕ ((Int × Unit) ⊕ (Unit))) := gbu_122r x.1.1 x.1.2.1 x.1.2.2.1 x.1.2.2.2.1 x.1.2.2.2.2.1 x.1.2.2.2.2.2.1 x.1.2.2.2.2.2.2.1 x.1.2.2.2.2.2.2.2.1 x.2.1.1 x.2.1.2.1 x.2.1.2.2.1 x.2.1.2.2.2.1 x.2.2.1 x.2.2.2.1 x.2.2.2.2.1
def gbu_122 (x0 : List (Int × Bool)) (x1 : List Y1) (x2 : List (Int × Bool × Bool × (List (Int × Int)))) (x3 : List (Int × Int × (List Int))) (x4 : List Y3) (x5 : List Y6) (x6 : List ((List Y15) × Int × (List Int) × Int)) (x7 : List Int) (x8 : List Y15) (x9 : Int) (x10 : List Int) (x11 : Int) (x12 : List Int) (x13 : Int) (x14 : Int) : Option ((Int × Unit) ⊕ (Unit)) := loopL gbu_122F ((x0, x1, x2, x3, x4, x5, x6, x7, ()), (x8, x9, x10, x11, ()), x12, x13, x14, ())
def gbu (x0 : List (Int × Bool)) (x1 : List Y1) (x2 : List (Int × Bool × Bool × (List (Int × Int)))) (x3 : List (Int × Int × (List Int))) (x4 : List Y3) (x5 : List Y6) (x6 : List ((List Y15) × Int × (List Int) × Int)) (x7 : List Int) (x8 : List Y15) (x9 : Int) (x10 : List Int) (x11 : Int) : Option (Int × Unit) :=
 (gbt x8 ((x5.length : Nat) : Int)).bind fun y1 =>
 bif (y1.1 != 0) then
  some (y1.1, ())
 else
  (bif decide (x9 < 0) then some true else some (decide (x9 > 100000))).bind fun b2 =>
  (bif b2 then some true else some (decide (x11 < 0))).bind fun b3 =>
  (bif b3 then some true else some (decide (x11 > 100))).bind fun b4 =>
  bif b4 then
   some (1, ())
  else
   (gbu_122 x0 x1 x2 x3 x4 x5 x6 x7 x8 x9 x10 x11 x10 ((x10.length : Nat) : Int) 0).bind fun z0 =>
   sumElim z0 (fun z1 =>
    some (z1.1, ()))
    (fun z2 =>
    some (0, ()))
def gbv_250r (x0 : List (Int × Bool)) (x1 : List Y1) (x2 : List (Int × Bool × Bool × (List (Int × Int)))) (x3 : List (Int × Int × (List Int))) (x4 : List Y3) (x5 : List Y6) (x6 : List ((List Y15) × Int × (List Int) × Int)) (x7 : List Int) (x8 : List Y6) (x9 : Int) (x10 : Int) : Option (((List (Int × Bool) × List Y1 × List (Int × Bool × Bool × (List (Int × Int))) × List (Int × Int × (List Int)) × List Y3 × List Y6 × List ((List Y15) × Int × (List Int) × Int) × List Int × Unit) × List Y6 × Int × Int × Unit) ⊕ ((Int × Unit) ⊕ ((List (Int × Bool) × List Y1 × List (Int × Bool × Bool × (List (Int × Int))) × List (Int × Int × (List Int)) × List Y3 × List Y6 × List ((List Y15) × Int × (List Int) × Int) × List Int × Unit) × Unit))) :=
 bif decide (x10 < x9) then
  (idx x8 x10).bind fun v0 =>
  (gbq x0 x1 x2 x3 x4 x5 x6 x7 v0.1 v0.2.1 v0.2.2.1 v0.2.2.2.1 v0.2.2.2.2.1 v0.2.2.2.2.2).bind fun y0 =>
  bif (y0.1 != 0) then
   some (.inr (.inl (y0.1, ())))
  else
   some (.inl ((x0, x1, x2, x3, x4, x5, x6, x7, ()), x8, x9, (IntKind.wrap .i64 (x10 + 1)), ()))
 else
  some (.inr (.inr ((x0, x1, x2, x3, x4, x5, x6, x7, ()), ())))
def gbv_250F (x : ((List (Int × Bool) × List Y1 × List (Int × Bool × Bool × (List (Int × Int))) × List (Int × Int × (List Int)) × List Y3 × List Y6 × List ((List Y15) × Int × (List Int) × Int) × List Int × Unit) × List Y6 × Int × Int × Unit)) : Option (((List (Int × Bool) × List Y1 × List (Int × Bool × Bool × (List (Int × Int))) × List (Int × Int × (List Int)) × List Y3 × List Y6 × List ((List Y15) × Int × (List Int) × Int) × List Int × Unit) × List Y6 × Int × Int × Unit) ⊕ ((Int × Unit) ⊕ ((List (Int × Bool) × List Y1 × List (Int × Bool × Bool × (List (Int × Int))) × List (Int × Int × (List Int)) × List Y3 × List Y6 × List ((List Y15) × Int × (List Int) × Int) × List Int × Unit) × Unit))) := gbv_250r x.1.1 x.1.2.1 x.1.2.2.1 x.1.2.2.2.1 x.1.2.2.2.2.1 x.1.2.2.2.2.2.1 x.1.2.2.2.2.2.2.1 x.1.2.2.2.2.2.2.2.1 x.2.1 x.2.2.1 x.2.2.2.1
def gbv_250 (x0 : List (Int × Bool)) (x1 : List Y1) (x2 : List (Int × Bool × Bool × (List (Int × Int)))) (x3 : List (Int × Int × (List Int))) (x4 : List Y3) (x5 : List Y6) (x6 : List ((List Y15) × Int × (List Int) × Int)) (x7 : List Int) (x8 : List Y6) (x9 : Int) (x10 : Int) : Option ((Int × Unit) ⊕ ((List (Int × Bool) × List Y1 × List (Int × Bool × Bool × (List (Int × Int))) × List (Int × Int × (List Int)) × List Y3 × List Y6 × List ((List Y15) × Int × (List Int) × Int) × List Int × Unit) × Unit)) := loopL gbv_250F ((x0, x1, x2, x3, x4, x5, x6, x7, ()), x8, x9, x10, ())
def gbv_506r (x0 : List (Int × Bool)) (x1 : List Y1) (x2 : List (Int × Bool × Bool × (List (Int × Int)))) (x3 : List (Int × Int × (List Int))) (x4 : List Y3) (x5 : List Y6) (x6 : List ((List Y15) × Int × (List Int) × Int)) (x7 : List Int) (x8 : List ((List Y15) × Int × (List Int) × Int)) (x9 : Int) (x10 : Int) : Option (((List (Int × Bool) × List Y1 × List (Int × Bool × Bool × (List (Int × Int))) × List (Int × Int × (List Int)) × List Y3 × List Y6 × List ((List Y15) × Int × (List Int) × Int) × List Int × Unit) × List ((List Y15) × Int × (List Int) × Int) × Int × Int × Unit) ⊕ ((Int × Unit) ⊕ ((List (Int × Bool) × List Y1 × List (Int × Bool × Bool × (List (Int × Int))) × List (Int × Int × (List Int)) × List Y3 × List Y6 × List ((List Y15) × Int × (List Int) × Int) × List Int × Unit) × Unit))) :=
 bif decide (x10 < x9) then
  (idx x8 x10).bind fun v1 =>
  (gbu x0 x1 x2 x3 x4 x5 x6 x7 v1.1 v1.2.1 v1.2.2.1 v1.2.2.2).bind fun y1 =>
  bif (y1.1 != 0) then
   some (.inr (.inl (y1.1, ())))
  else
   some (.inl ((x0, x1, x2, x3, x4, x5, x6, x7, ()), x8, x9, (IntKind.wrap .i64 (x10 + 1)), ()))
 else
  some (.inr (.inr ((x0, x1, x2, x3, x4, x5, x6, x7, ()), ())))
def gbv_506F (x : ((List (Int × Bool) × List Y1 × List (Int × Bool × Bool × (List (Int × Int))) × List (Int × Int × (List Int)) × List Y3 × List Y6 × List ((List Y15) × Int × (List Int) × Int) × List Int × Unit) × List ((List Y15) × Int × (List Int) × Int) × Int × Int × Unit)) : Option (((List (Int × Bool) × List Y1 × List (Int × Bool × Bool × (List (Int × Int))) × List (Int × Int × (List Int)) × List Y3 × List Y6 × List ((List Y15) × Int × (List Int) × Int) × List Int × Unit) × List ((List Y15) × Int × (List Int) × Int) × Int × Int × Unit) ⊕ ((Int × Unit) ⊕ ((List (Int × Bool) × List Y1 × List (Int × Bool × Bool × (List (Int × Int))) × List (Int × Int × (List Int)) × List Y3 × List Y6 × List ((List Y15) × Int × (List Int) × Int) × List Int × Unit) × Unit))) := gbv_506r x.1.1 x.1.2.1 x.1.2.2.1 x.1.2.2.2.1 x.1.2.2.2.2.1 x.1.2.2.2.2.2.1 x.1.2.2.2.2.2.2.1 x.1.2.2.2.2.2.2.2.1 x.2.1 x.2.2.1 x.2.2.2.1
def gbv_506 (x0 : List (Int × Bool)) (x1 : List Y1) (x2 : List (Int × Bool × Bool × (List (Int × Int)))) (x3 : List (Int × Int × (List Int))) (x4 : List Y3) (x5 : List Y6) (x6 : List ((List Y15) × Int × (List Int) × Int)) (x7 : List Int) (x8 : List ((List Y15) × Int × (List Int) × Int)) (x9 : Int) (x10 : Int) : Option ((Int × Unit) ⊕ ((List (Int × Bool) × List Y1 × List (Int × Bool × Bool × (List (Int × Int))) × List (Int × Int × (List Int)) × List Y3 × List Y6 × List ((List Y15) × Int × (List Int) × Int) × List Int × Unit) × Unit)) := loopL gbv_506F ((x0, x1, x2, x3, x4, x5, x6, x7, ()), x8, x9, x10, ())
def gbv_1018r (x0 : List Int) (x1 : Int) (x2 : Int) : Option (Y10 ⊕ ((Int × Unit) ⊕ (Unit))) :=
 bif decide (x2 < x1) then
  (idx x0 x2).bind fun v2 =>
  (bif decide (v2 < 1) then some true else some (decide (v2 > 3))).bind fun b0 =>
  bif b0 then
   some (.inr (.inl (19, ())))
  else
   some (.inl (x0, x1, (IntKind.wrap .i64 (x2 + 1)), ()))
 else
  some (.inr (.inr ()))
def gbv_1018F (x : Y10) : Option (Y10 ⊕ ((Int × Unit) ⊕ (Unit))) := gbv_1018r x.1 x.2.1 x.2.2.1
def gbv_1018 (x0 : List Int) (x1 : Int) (x2 : Int) : Option ((Int × Unit) ⊕ (Unit)) := loopL gbv_1018F (x0, x1, x2, ())
def gbv (x0 : List (Int × Bool)) (x1 : List Y1) (x2 : List (Int × Bool × Bool × (List (Int × Int)))) (x3 : List (Int × Int × (List Int))) (x4 : List Y3) (x5 : List Y6) (x6 : List ((List Y15) × Int × (List Int) × Int)) (x7 : List Int) : Option (Int × Unit) :=
 (gbk x0 x1 x2 x3).bind fun y2 =>
 bif (y2.1 != 0) then
  some (y2.1, ())
 else
  (bif decide (((x4.length : Nat) : Int) > 64) then some true else some (decide (((x5.length : Nat) : Int) > 64))).bind fun b1 =>
  (bif b1 then some true else some (decide (((x6.length : Nat) : Int) > 16))).bind fun b2 =>
  (bif b2 then some true else some (decide (((x7.length : Nat) : Int) > 64))).bind fun b3 =>
  bif b3 then
   some (2, ())
  else
   (gbo x0 x1 x2 x3 x4 x5 x6 x7).bind fun y3 =>
   bif (y3.1 != 0) then
    some (y3.1, ())
   else
    (gbv_250 x0 x1 x2 x3 x4 x5 x6 x7 x5 ((x5.length : Nat) : Int) 0).bind fun z0 =>
    sumElim z0 (fun z1 =>
     some (z1.1, ()))
     (fun z2 =>
     (gbv_506 z2.1.1 z2.1.2.1 z2.1.2.2.1 z2.1.2.2.2.1 z2.1.2.2.2.2.1 z2.1.2.2.2.2.2.1 z2.1.2.2.2.2.2.2.1 z2.1.2.2.2.2.2.2.2.1 z2.1.2.2.2.2.2.2.1 ((z2.1.2.2.2.2.2.2.1.length : Nat) : Int) 0).bind fun z3 =>
     sumElim z3 (fun z4 =>
      some (z4.1, ()))
      (fun z5 =>
      (gbv_1018 z5.1.2.2.2.2.2.2.2.1 ((z5.1.2.2.2.2.2.2.2.1.length : Nat) : Int) 0).bind fun z6 =>
      sumElim z6 (fun z7 =>
       some (z7.1, ()))
       (fun z8 =>
       some (0, ()))))
def gbw : Option (Y16 × Unit) :=
 some (((-1125899906842624), 1125899906842624, ()), ())
def gbx (x0 : Int) : Option (Bool × Unit) :=
 (bif (x0 == 4) then some true else some (x0 == 5)).bind fun b0 =>
 (bif b0 then some true else some (x0 == 6)).bind fun b1 =>
 some (b1, ())
def gby (x0 : Int) (x1 : Int) (x2 : Int) (x3 : Int) (x4 : Int) (x5 : Int) (x6 : Int) (x7 : Int) (x8 : Int) (x9 : Int) (x10 : Int) (x11 : Int) (x12 : Int) : Option (Y16 × Unit) :=
 (gbw).bind fun y0 =>
 (gbm x0 x1 x2 x3 x4 x5 x6 x7).bind fun y1 =>
 (bif (y1.1 != 0) then some true else some (decide (x8 < 0))).bind fun b0 =>
 (bif b0 then some true else some ((x10 == y0.1.1) && ((x11 == y0.1.2.1) && true))).bind fun b1 =>
 (bif b1 then some true else some (decide (x12 < x9))).bind fun b2 =>
 (bif b2 then some true else some (decide ((IntKind.wrap .i64 (x12 - x9)) > x7))).bind fun b3 =>
 bif b3 then
  some (y0.1, ())
 else
  (gbx x1).bind fun y2 =>
  bif y2.1 then
   some ((x10, x11, ()), ())
  else
   (bif (x1 == 1) then some true else some (x1 == 2)).bind fun b4 =>
   bif b4 then
    some (((bif decide (0 > (IntKind.wrap .i64 (x10 - (IntKind.wrap .i64 (Int.tdiv (IntKind.wrap .i64 ((IntKind.wrap .i64 (x6 * (IntKind.wrap .i64 (x12 - x9)))) + 999)) 1000))))) then 0 else (IntKind.wrap .i64 (x10 - (IntKind.wrap .i64 (Int.tdiv (IntKind.wrap .i64 ((IntKind.wrap .i64 (x6 * (IntKind.wrap .i64 (x12 - x9)))) + 999)) 1000))))), (bif decide (0 > (IntKind.wrap .i64 (x11 + (IntKind.wrap .i64 (Int.tdiv (IntKind.wrap .i64 ((IntKind.wrap .i64 (x6 * (IntKind.wrap .i64 (x12 - x9)))) + 999)) 1000))))) then 0 else (IntKind.wrap .i64 (x11 + (IntKind.wrap .i64 (Int.tdiv (IntKind.wrap .i64 ((IntKind.wrap .i64 (x6 * (IntKind.wrap .i64 (x12 - x9)))) + 999)) 1000))))), ()), ())
   else
    some (((IntKind.wrap .i64 (x10 - (IntKind.wrap .i64 (Int.tdiv (IntKind.wrap .i64 ((IntKind.wrap .i64 (x6 * (IntKind.wrap .i64 (x12 - x9)))) + 999)) 1000)))), (IntKind.wrap .i64 (x11 + (IntKind.wrap .i64 (Int.tdiv (IntKind.wrap .i64 ((IntKind.wrap .i64 (x6 * (IntKind.wrap .i64 (x12 - x9)))) + 999)) 1000)))), ()), ())
def gbz (x0 : List (Int × Bool)) (x1 : List Y1) (x2 : List (Int × Bool × Bool × (List (Int × Int)))) (x3 : List (Int × Int × (List Int))) (x4 : List Y3) (x5 : List Y6) (x6 : List ((List Y15) × Int × (List Int) × Int)) (x7 : List Int) (x8 : List Y15) (x9 : Int) (x10 : Int) : Option (Y16 × Unit) :=
 (gbn x9 ((x4.length : Nat) : Int)).bind fun y0 =>
 (bif (!y0.1) then some true else some (decide (x9 ≥ ((x8.length : Nat) : Int)))).bind fun b0 =>
 (bif b0 then some true else ((idx x8 x9).bind fun v0 => some (v0.1 != x9))).bind fun b1 =>
 bif b1 then
  (gbw).bind fun y1 =>
  some (y1.1, ())
 else
  (idx x4 x9).bind fun v1 =>
  (idx x8 x9).bind fun v2 =>
  (gby v1.1 v1.2.1 v1.2.2.1 v1.2.2.2.1 v1.2.2.2.2.1 v1.2.2.2.2.2.1 v1.2.2.2.2.2.2.1 v1.2.2.2.2.2.2.2 v2.1 v2.2.1 v2.2.2.1 v2.2.2.2 x10).bind fun y2 =>
  some (y2.1, ())
def gca (x0 : Int) (x1 : Int) (x2 : Int) : Option (Int × Unit) :=
 bif decide (x0 > x1) then
  some (0, ())
 else
  bif decide (x0 ≥ x2) then
   some (1, ())
  else
   bif decide (x1 < x2) then
    some ((-1), ())
   else
    some (0, ())
def gcb_32383 (x0 : Int) (x1 : Int) (x2 : Int) (x3 : Int) (x4 : Bool) (x5 : Int) (x6 : Int) (x7 : Bool) (x8 : Int) (x9 : Int) : Option (Y12 × Y12 × Unit) :=
 bif decide ((IntKind.wrap .i64 (x0 - x5)) ≥ x3) then
  some ((false, (-1), x6, ()), (x7, x8, x9, ()), ())
 else
  some ((x4, x5, x6, ()), (x7, x8, x9, ()), ())
def gcb (x0 : Int) (x1 : Int) (x2 : Int) (x3 : Bool) (x4 : Int) (x5 : Int) (x6 : Int) (x7 : Int) (x8 : Int) : Option ((Y12 × Int × Unit) × Unit) :=
 (gbp x0 x1 x2).bind fun y0 =>
 bif (y0.1 != 0) then
  some (((false, 0, 0, ()), y0.1, ()), ())
 else
  (bif decide (x8 < 0) then some true else some (decide (x8 > 2147483648))).bind fun b0 =>
  (bif b0 then some true else some (decide (x8 < x5))).bind fun b1 =>
  bif b1 then
   some (((false, 0, 0, ()), 8, ()), ())
  else
   (bif decide (x5 < 0) then some true else some (decide (x5 > 2147483648))).bind fun b2 =>
   (bif b2 then some true else some (decide (x4 < (-1)))).bind fun b3 =>
   (bif b3 then some true else some (decide (x4 > x5))).bind fun b4 =>
   (bif b4 then some true else ((bif (x4 != (-1)) then some (!x3) else some false).bind fun b5 => some b5)).bind fun b6 =>
   bif b6 then
    some (((false, 0, 0, ()), 10, ()), ())
   else
    (gca x6 x7 x0).bind fun y1 =>
    bif (y1.1 != (-1)) then
     some (((true, (-1), x8, ()), 0, ()), ())
    else
     bif (!x3) then
      some (((x3, x4, x8, ()), 0, ()), ())
     else
      bif decide (x7 > x1) then
       some (((x3, (-1), x8, ()), 0, ()), ())
      else
       bif decide (x4 < 0) then
        (gcb_32383 x8 x0 x1 x2 x3 x8 x8 false 0 0).bind fun z0 =>
        some ((z0.1, 0, ()), ())
       else
        (gcb_32383 x8 x0 x1 x2 x3 x4 x8 false 0 0).bind fun z1 =>
        some ((z1.1, 0, ()), ())
def gcc (x0 : Int) (x1 : Int) (x2 : Int) (x3 : Int) (x4 : Int) (x5 : Int) (x6 : Bool) (x7 : Int) (x8 : Int) (x9 : Int) (x10 : Int) : Option (Int × Unit) :=
 bif (!x6) then
  some ((-1), ())
 else
  (gca x9 x10 x3).bind fun y0 =>
  bif (y0.1 == 1) then
   some (1, ())
  else
   some (0, ())
def gcd (x0 : Int) (x1 : Int) : Option (Int × Unit) :=
 bif decide (x0 > x1) then
  some (0, ())
 else
  (bif (x0 == 1) then some (x1 == 1) else some false).bind fun b0 =>
  bif b0 then
   some ((-1), ())
  else
   (bif decide (x0 > 1) then some true else some (decide (x1 < 1))).bind fun b1 =>
   bif b1 then
    some (1, ())
   else
    some (0, ())
def gce (x0 : Int) (x1 : Int) (x2 : Int) : Option (Int × Unit) :=
 bif decide (x0 > x1) then
  some (0, ())
 else
  (bif decide (x2 ≤ 0) then some true else some (decide (x0 ≥ x2))).bind fun b0 =>
  (bif b0 then some true else some (decide (x1 ≤ (IntKind.wrap .i64 (0 - x2))))).bind fun b1 =>
  bif b1 then
   some (1, ())
  else
   (bif decide (x0 > (IntKind.wrap .i64 (0 - x2))) then some (decide (x1 < x2)) else some false).bind fun b2 =>
   bif b2 then
    some ((-1), ())
   else
    some (0, ())
def gcf_58r (x0 : List (Int × Int)) (x1 : List Int) (x2 : List (Int × Int)) (x3 : Int) (x4 : Int) : Option ((List (Int × Int) × List Int × List (Int × Int) × Int × Int × Unit) ⊕ Y18) :=
 bif decide (x4 < x3) then
  (idx x2 x4).bind fun v0 =>
  (bif decide (v0.1 ≥ 0) then some (decide (v0.1 < ((x0.length : Nat) : Int))) else some false).bind fun b0 =>
  bif b0 then
   (idx x0 v0.1).bind fun v1 =>
   (gce v1.1 v1.2 v0.2).bind fun y0 =>
   bif (decide (0 ≤ x4) && decide (x4 < ((x1.length : Nat) : Int))) then
   (x1[x4.toNat]?).bind fun v2 =>
   some (.inl (x0, (x1).set x4.toNat y0.1, x2, x3, (IntKind.wrap .i64 (x4 + 1)), ()))
   else none
  else
   some (.inl (x0, x1, x2, x3, (IntKind.wrap .i64 (x4 + 1)), ()))
 else
  some (.inr (x1, ()))
def gcf_58F (x : (List (Int × Int) × List Int × List (Int × Int) × Int × Int × Unit)) : Option ((List (Int × Int) × List Int × List (Int × Int) × Int × Int × Unit) ⊕ Y18) := gcf_58r x.1 x.2.1 x.2.2.1 x.2.2.2.1 x.2.2.2.2.1
def gcf_58 (x0 : List (Int × Int)) (x1 : List Int) (x2 : List (Int × Int)) (x3 : Int) (x4 : Int) : Option Y18 := loopL gcf_58F (x0, x1, x2, x3, x4, ())
def gcf (x0 : List (Int × Int)) (x1 : List (Int × Int)) : Option Y18 :=
 bif (decide (0 ≤ ((x1.length : Nat) : Int)) && (decide (((x1.length : Nat) : Int) ≤ ((x1.length : Nat) : Int)) && decide (((x1.length : Nat) : Int) * ((8 : Nat) : Int) ≤ ((140737488355328 : Nat) : Int)))) then
 (gcf_58 x0 (List.replicate ((x1.length : Nat) : Int).toNat (0 : Int)) x1 ((x1.length : Nat) : Int) 0).bind fun z0 =>
 some (z0.1, ())
 else none
def gcg_506r (x0 : List Y15) (x1 : List Y17) (x2 : List (Int × Int)) (x3 : Int) (x4 : List (Int × Bool)) (x5 : List Y1) (x6 : List (Int × Bool × Bool × (List (Int × Int)))) (x7 : List (Int × Int × (List Int))) (x8 : List Y3) (x9 : List Y6) (x10 : List ((List Y15) × Int × (List Int) × Int)) (x11 : List Int) (x12 : List Int) (x13 : List Y17) (x14 : List Y6) (x15 : Int) (x16 : Int) : Option ((List Y15 × List Y17 × List (Int × Int) × Int × (List (Int × Bool) × List Y1 × List (Int × Bool × Bool × (List (Int × Int))) × List (Int × Int × (List Int)) × List Y3 × List Y6 × List ((List Y15) × Int × (List Int) × Int) × List Int × Unit) × List Int × List Y17 × List Y6 × Int × Int × Unit) ⊕ (Y29 ⊕ Y34)) :=
 bif decide (x16 < x15) then
  (idx x14 x16).bind fun v0 =>
  (gbz x4 x5 x6 x7 x8 x9 x10 x11 x0 v0.2.1 x3).bind fun y0 =>
  bif (v0.1 == 1) then
   (idx x1 x16).bind fun v1 =>
   (gcb v0.2.2.2.1 v0.2.2.2.2.1 v0.2.2.2.2.2 v1.1 v1.2.1 v1.2.2 y0.1.1 y0.1.2.1 x3).bind fun y1 =>
   bif (y1.1.2.1 != 0) then
    some (.inr (.inl (([] : List Int), ([] : List Y17), y1.1.2.1, ())))
   else
    (gcc v0.1 v0.2.1 v0.2.2.1 v0.2.2.2.1 v0.2.2.2.2.1 v0.2.2.2.2.2 y1.1.1.1 y1.1.1.2.1 y1.1.1.2.2.1 y0.1.1 y0.1.2.1).bind fun y2 =>
    bif (decide (0 ≤ x16) && decide (x16 < ((x13.length : Nat) : Int))) then
    (x13[x16.toNat]?).bind fun v2 =>
    bif (decide (0 ≤ x16) && decide (x16 < ((x12.length : Nat) : Int))) then
    (x12[x16.toNat]?).bind fun v3 =>
    some (.inl (x0, x1, x2, x3, (x4, x5, x6, x7, x8, x9, x10, x11, ()), (x12).set x16.toNat y2.1, (x13).set x16.toNat (y1.1.1.1, y1.1.1.2.1, y1.1.1.2.2.1), x14, x15, (IntKind.wrap .i64 (x16 + 1)), ()))
    else none
    else none
  else
   bif (v0.1 == 2) then
    (gca y0.1.1 y0.1.2.1 v0.2.2.1).bind fun y3 =>
    bif (decide (0 ≤ x16) && decide (x16 < ((x12.length : Nat) : Int))) then
    (x12[x16.toNat]?).bind fun v4 =>
    some (.inl (x0, x1, x2, x3, (x4, x5, x6, x7, x8, x9, x10, x11, ()), (x12).set x16.toNat (IntKind.wrap .i64 (0 - y3.1)), x13, x14, x15, (IntKind.wrap .i64 (x16 + 1)), ()))
    else none
   else
    bif (v0.1 == 3) then
     (gcd y0.1.1 y0.1.2.1).bind fun y4 =>
     bif (decide (0 ≤ x16) && decide (x16 < ((x12.length : Nat) : Int))) then
     (x12[x16.toNat]?).bind fun v5 =>
     some (.inl (x0, x1, x2, x3, (x4, x5, x6, x7, x8, x9, x10, x11, ()), (x12).set x16.toNat y4.1, x13, x14, x15, (IntKind.wrap .i64 (x16 + 1)), ()))
     else none
    else
     bif (v0.1 == 4) then
      bif (decide (0 ≤ x16) && decide (x16 < ((x12.length : Nat) : Int))) then
      (x12[x16.toNat]?).bind fun v6 =>
      (gbw).bind fun y5 =>
      bif ((y0.1.1 == y5.1.1) && ((y0.1.2.1 == y5.1.2.1) && true)) then
       bif (decide (0 ≤ x16) && decide (x16 < ((((x12).set x16.toNat (-1)).length : Nat) : Int))) then
       (((x12).set x16.toNat (-1))[x16.toNat]?).bind fun v7 =>
       some (.inl (x0, x1, x2, x3, (x4, x5, x6, x7, x8, x9, x10, x11, ()), ((x12).set x16.toNat (-1)).set x16.toNat 1, x13, x14, x15, (IntKind.wrap .i64 (x16 + 1)), ()))
       else none
      else
       some (.inl (x0, x1, x2, x3, (x4, x5, x6, x7, x8, x9, x10, x11, ()), (x12).set x16.toNat (-1), x13, x14, x15, (IntKind.wrap .i64 (x16 + 1)), ()))
      else none
     else
      bif (v0.1 == 5) then
       (gcf x2 ([(v0.2.1, v0.2.2.1)] : List (Int × Int))).bind fun y6 =>
       bif (decide (0 ≤ 0) && decide (0 < ((y6.1.length : Nat) : Int))) then
       (y6.1[0]?).bind fun v8 =>
       bif (decide (0 ≤ x16) && decide (x16 < ((x12.length : Nat) : Int))) then
       (x12[x16.toNat]?).bind fun v9 =>
       some (.inl (x0, x1, x2, x3, (x4, x5, x6, x7, x8, x9, x10, x11, ()), (x12).set x16.toNat (IntKind.wrap .i64 (0 - v8)), x13, x14, x15, (IntKind.wrap .i64 (x16 + 1)), ()))
       else none
       else none
      else
       some (.inl (x0, x1, x2, x3, (x4, x5, x6, x7, x8, x9, x10, x11, ()), x12, x13, x14, x15, (IntKind.wrap .i64 (x16 + 1)), ()))
 else
  some (.inr (.inr (x12, x13, ())))
def gcg_506F (x : (List Y15 × List Y17 × List (Int × Int) × Int × (List (Int × Bool) × List Y1 × List (Int × Bool × Bool × (List (Int × Int))) × List (Int × Int × (List Int)) × List Y3 × List Y6 × List ((List Y15) × Int × (List Int) × Int) × List Int × Unit) × List Int × List Y17 × List Y6 × Int × Int × Unit)) : Option ((List Y15 × List Y17 × List (Int × Int) × Int × (List (Int × Bool) × List Y1 × List (Int × Bool × Bool × (List (Int × Int))) × List (Int × Int × (List Int)) × List Y3 × List Y6 × List ((List Y15) × Int × (List Int) × Int) × List Int × Unit) × List Int × List Y17 × List Y6 × Int × Int × Unit) ⊕ (Y29 ⊕ Y34)) := gcg_506r x.1 x.2.1 x.2.2.1 x.2.2.2.1 x.2.2.2.2.1.1 x.2.2.2.2.1.2.1 x.2.2.2.2.1.2.2.1 x.2.2.2.2.1.2.2.2.1 x.2.2.2.2.1.2.2.2.2.1 x.2.2.2.2.1.2.2.2.2.2.1 x.2.2.2.2.1.2.2.2.2.2.2.1 x.2.2.2.2.1.2.2.2.2.2.2.2.1 x.2.2.2.2.2.1 x.2.2.2.2.2.2.1 x.2.2.2.2.2.2.2.1 x.2.2.2.2.2.2.2.2.1 x.2.2.2.2.2.2.2.2.2.1
def gcg_506 (x0 : List Y15) (x1 : List Y17) (x2 : List (Int × Int)) (x3 : Int) (x4 : List (Int × Bool)) (x5 : List Y1) (x6 : List (Int × Bool × Bool × (List (Int × Int)))) (x7 : List (Int × Int × (List Int))) (x8 : List Y3) (x9 : List Y6) (x10 : List ((List Y15) × Int × (List Int) × Int)) (x11 : List Int) (x12 : List Int) (x13 : List Y17) (x14 : List Y6) (x15 : Int) (x16 : Int) : Option (Y29 ⊕ Y34) := loopL gcg_506F (x0, x1, x2, x3, (x4, x5, x6, x7, x8, x9, x10, x11, ()), x12, x13, x14, x15, x16, ())
def gcg (x0 : List (Int × Bool)) (x1 : List Y1) (x2 : List (Int × Bool × Bool × (List (Int × Int)))) (x3 : List (Int × Int × (List Int))) (x4 : List Y3) (x5 : List Y6) (x6 : List ((List Y15) × Int × (List Int) × Int)) (x7 : List Int) (x8 : List Y15) (x9 : List Y17) (x10 : List (Int × Int)) (x11 : Int) : Option (Y29 × Unit) :=
 (gbv x0 x1 x2 x3 x4 x5 x6 x7).bind fun y7 =>
 bif (y7.1 != 0) then
  some ((([] : List Int), ([] : List Y17), y7.1, ()), ())
 else
  (bif (((x8.length : Nat) : Int) != ((x4.length : Nat) : Int)) then some true else some (((x9.length : Nat) : Int) != ((x5.length : Nat) : Int))).bind fun b0 =>
  (bif b0 then some true else some (((x10.length : Nat) : Int) != ((x1.length : Nat) : Int))).bind fun b1 =>
  bif b1 then
   some ((([] : List Int), ([] : List Y17), 11, ()), ())
  else
   (bif decide (x11 < 0) then some true else some (decide (x11 > 2147483648))).bind fun b2 =>
   bif b2 then
    some ((([] : List Int), ([] : List Y17), 8, ()), ())
   else
    bif (decide (0 ≤ ((x9.length : Nat) : Int)) && (decide (((x9.length : Nat) : Int) ≤ ((x9.length : Nat) : Int)) && decide (((x9.length : Nat) : Int) * ((8 : Nat) : Int) ≤ ((140737488355328 : Nat) : Int)))) then
    bif decide ((0 + x9.length) * 24 ≤ 140737488355328) then
    (gcg_506 x8 x9 x10 x11 x0 x1 x2 x3 x4 x5 x6 x7 (List.replicate ((x9.length : Nat) : Int).toNat (0 : Int)) x9 x5 ((x5.length : Nat) : Int) 0).bind fun z0 =>
    sumElim z0 (fun z1 =>
     some (z1, ()))
     (fun z2 =>
     some ((z2.1, z2.2.1, 0, ()), ()))
    else none
    else none
def gch : Option (Y14 × Unit) :=
 some ((([] : List Int), 0, ()), ())
def gci_63 (x0 : List Int) (x1 : Int) (x2 : Int) (x3 : Int) : Option (Y14 × Int × Unit) :=
 bif (!decide (x2 = 0)) then
 some ((x0, x1, ()), (Int.tmod x3 x2), ())
 else none
def gci (x0 : List Int) (x1 : Int) (x2 : Int) : Option (Int × (Y14 × Unit)) :=
 (bif decide (x2 < 1) then some true else some (decide (x1 ≥ ((x0.length : Nat) : Int)))).bind fun b0 =>
 bif b0 then
  some (0, ((x0, x1, ()), ()))
 else
  bif (decide (0 ≤ (IntKind.wrap .i64 ((IntKind.wrap .i64 (x1 + 1)) - 1))) && decide ((IntKind.wrap .i64 ((IntKind.wrap .i64 (x1 + 1)) - 1)) < ((x0.length : Nat) : Int))) then
  (x0[(IntKind.wrap .i64 ((IntKind.wrap .i64 (x1 + 1)) - 1)).toNat]?).bind fun v0 =>
  (bif decide (x2 > 256) then some (decide ((IntKind.wrap .i64 (x1 + 1)) < ((x0.length : Nat) : Int))) else some false).bind fun b1 =>
  bif b1 then
   bif (decide (0 ≤ (IntKind.wrap .i64 (x1 + 1))) && decide ((IntKind.wrap .i64 (x1 + 1)) < ((x0.length : Nat) : Int))) then
   (x0[(IntKind.wrap .i64 (x1 + 1)).toNat]?).bind fun v1 =>
   (gci_63 x0 (IntKind.wrap .i64 ((IntKind.wrap .i64 (x1 + 1)) + 1)) x2 (IntKind.wrap .i64 ((IntKind.wrap .i64 ((IntKind.wrap .i64 v0) * 256)) + (IntKind.wrap .i64 v1)))).bind fun z0 =>
   some (z0.2.1, (z0.1, ()))
   else none
  else
   (gci_63 x0 (IntKind.wrap .i64 (x1 + 1)) x2 (IntKind.wrap .i64 v0)).bind fun z1 =>
   some (z1.2.1, (z1.1, ()))
  else none
def gcj (x0 : List Int) (x1 : Int) (x2 : Int) (x3 : Int) : Option (Int × (Y14 × Unit)) :=
 (gci x0 x1 (IntKind.wrap .i64 ((IntKind.wrap .i64 (x3 - x2)) + 1))).bind fun y0 =>
 some ((IntKind.wrap .i64 (x2 + y0.1)), y0.2)
def gck_506r (x0 : List Int) (x1 : Int) (x2 : List (Int × Bool)) (x3 : List Y1) (x4 : List (Int × Bool × Bool × (List (Int × Int)))) (x5 : List (Int × Int × (List Int))) (x6 : List Y3) (x7 : List Y6) (x8 : List ((List Y15) × Int × (List Int) × Int)) (x9 : List Int) (x10 : List Y8) (x11 : List Int) (x12 : Int) (x13 : List (Int × Bool)) (x14 : List Y1) (x15 : List (Int × Bool × Bool × (List (Int × Int)))) (x16 : List (Int × Int × (List Int))) (x17 : List Y3) (x18 : List Y6) (x19 : List ((List Y15) × Int × (List Int) × Int)) (x20 : List Int) (x21 : List Y8) (x22 : List Int) (x23 : Int) (x24 : Int) : Option ((Y14 × (List (Int × Bool) × List Y1 × List (Int × Bool × Bool × (List (Int × Int))) × List (Int × Int × (List Int)) × List Y3 × List Y6 × List ((List Y15) × Int × (List Int) × Int) × List Int × Unit) × Y30 × (List (Int × Bool) × List Y1 × List (Int × Bool × Bool × (List (Int × Int))) × List (Int × Int × (List Int)) × List Y3 × List Y6 × List ((List Y15) × Int × (List Int) × Int) × List Int × Unit) × Y30 × Int × Unit) ⊕ (Y14 × (List (Int × Bool) × List Y1 × List (Int × Bool × Bool × (List (Int × Int))) × List (Int × Int × (List Int)) × List Y3 × List Y6 × List ((List Y15) × Int × (List Int) × Int) × List Int × Unit) × Y30 × (List (Int × Bool) × List Y1 × List (Int × Bool × Bool × (List (Int × Int))) × List (Int × Int × (List Int)) × List Y3 × List Y6 × List ((List Y15) × Int × (List Int) × Int) × List Int × Unit) × Y30 × Unit)) :=
 bif decide (x24 > 0) then
  bif decide ((x21.length + 1) * 32 ≤ 140737488355328) then
  bif (decide (0 ≤ 0) && decide (0 < ((x22.length : Nat) : Int))) then
  (x22[0]?).bind fun v0 =>
  some (.inl ((x0, x1, ()), (x2, x3, x4, x5, x6, x7, x8, x9, ()), (x10, x11, x12, ()), (x13, x14, x15, x16, x17, x18, x19, x20, ()), ((x21 ++ ([((IntKind.wrap .i64 (((x21.length : Nat) : Int) - 1)), 0, 0, true, false)] : List Y8)), (x22).set 0 (IntKind.wrap .i64 ((((x21 ++ ([((IntKind.wrap .i64 (((x21.length : Nat) : Int) - 1)), 0, 0, true, false)] : List Y8)).length : Nat) : Int) - 1)), x23, ()), (IntKind.wrap .i64 (x24 - 1)), ()))
  else none
  else none
 else
  some (.inr ((x0, x1, ()), (x2, x3, x4, x5, x6, x7, x8, x9, ()), (x10, x11, x12, ()), (x13, x14, x15, x16, x17, x18, x19, x20, ()), (x21, x22, x23, ()), ()))
def gck_506F (x : (Y14 × (List (Int × Bool) × List Y1 × List (Int × Bool × Bool × (List (Int × Int))) × List (Int × Int × (List Int)) × List Y3 × List Y6 × List ((List Y15) × Int × (List Int) × Int) × List Int × Unit) × Y30 × (List (Int × Bool) × List Y1 × List (Int × Bool × Bool × (List (Int × Int))) × List (Int × Int × (List Int)) × List Y3 × List Y6 × List ((List Y15) × Int × (List Int) × Int) × List Int × Unit) × Y30 × Int × Unit)) : Option ((Y14 × (List (Int × Bool) × List Y1 × List (Int × Bool × Bool × (List (Int × Int))) × List (Int × Int × (List Int)) × List Y3 × List Y6 × List ((List Y15) × Int × (List Int) × Int) × List Int × Unit) × Y30 × (List (Int × Bool) × List Y1 × List (Int × Bool × Bool × (List (Int × Int))) × List (Int × Int × (List Int)) × List Y3 × List Y6 × List ((List Y15) × Int × (List Int) × Int) × List Int × Unit) × Y30 × Int × Unit) ⊕ (Y14 × (List (Int × Bool) × List Y1 × List (Int × Bool × Bool × (List (Int × Int))) × List (Int × Int × (List Int)) × List Y3 × List Y6 × List ((List Y15) × Int × (List Int) × Int) × List Int × Unit) × Y30 × (List (Int × Bool) × List Y1 × List (Int × Bool × Bool × (List (Int × Int))) × List (Int × Int × (List Int)) × List Y3 × List Y6 × List ((List Y15) × Int × (List Int) × Int) × List Int × Unit) × Y30 × Unit)) := gck_506r x.1.1 x.1.2.1 x.2.1.1 x.2.1.2.1 x.2.1.2.2.1 x.2.1.2.2.2.1 x.2.1.2.2.2.2.1 x.2.1.2.2.2.2.2.1 x.2.1.2.2.2.2.2.2.1 x.2.1.2.2.2.2.2.2.2.1 x.2.2.1.1 x.2.2.1.2.1 x.2.2.1.2.2.1 x.2.2.2.1.1 x.2.2.2.1.2.1 x.2.2.2.1.2.2.1 x.2.2.2.1.2.2.2.1 x.2.2.2.1.2.2.2.2.1 x.2.2.2.1.2.2.2.2.2.1 x.2.2.2.1.2.2.2.2.2.2.1 x.2.2.2.1.2.2.2.2.2.2.2.1 x.2.2.2.2.1.1 x.2.2.2.2.1.2.1 x.2.2.2.2.1.2.2.1 x.2.2.2.2.2.1
def gck_506 (x0 : List Int) (x1 : Int) (x2 : List (Int × Bool)) (x3 : List Y1) (x4 : List (Int × Bool × Bool × (List (Int × Int)))) (x5 : List (Int × Int × (List Int))) (x6 : List Y3) (x7 : List Y6) (x8 : List ((List Y15) × Int × (List Int) × Int)) (x9 : List Int) (x10 : List Y8) (x11 : List Int) (x12 : Int) (x13 : List (Int × Bool)) (x14 : List Y1) (x15 : List (Int × Bool × Bool × (List (Int × Int)))) (x16 : List (Int × Int × (List Int))) (x17 : List Y3) (x18 : List Y6) (x19 : List ((List Y15) × Int × (List Int) × Int)) (x20 : List Int) (x21 : List Y8) (x22 : List Int) (x23 : Int) (x24 : Int) : Option (Y14 × (List (Int × Bool) × List Y1 × List (Int × Bool × Bool × (List (Int × Int))) × List (Int × Int × (List Int)) × List Y3 × List Y6 × List ((List Y15) × Int × (List Int) × Int) × List Int × Unit) × Y30 × (List (Int × Bool) × List Y1 × List (Int × Bool × Bool × (List (Int × Int))) × List (Int × Int × (List Int)) × List Y3 × List Y6 × List ((List Y15) × Int × (List Int) × Int) × List Int × Unit) × Y30 × Unit) := loopL gck_506F ((x0, x1, ()), (x2, x3, x4, x5, x6, x7, x8, x9, ()), (x10, x11, x12, ()), (x13, x14, x15, x16, x17, x18, x19, x20, ()), (x21, x22, x23, ()), x24, ())
def gck (x0 : List Int) (x1 : Int) : Option (((List (Int × Bool) × List Y1 × List (Int × Bool × Bool × (List (Int × Int))) × List (Int × Int × (List Int)) × List Y3 × List Y6 × List ((List Y15) × Int × (List Int) × Int) × List Int × Unit) × Y30 × Unit) × (Y14 × Unit)) :=
 (gcj x0 x1 1 4).bind fun y0 =>
 (gcj y0.2.1.1 y0.2.1.2.1 1 5).bind fun y1 =>
 (gcj y1.2.1.1 y1.2.1.2.1 1 5).bind fun y2 =>
 (gci y2.2.1.1 y2.2.1.2.1 3).bind fun y3 =>
 (gck_506 y3.2.1.1 y3.2.1.2.1 ([] : List (Int × Bool)) ([] : List Y1) ([] : List (Int × Bool × Bool × (List (Int × Int)))) ([] : List (Int × Int × (List Int))) ([] : List Y3) ([] : List Y6) ([] : List ((List Y15) × Int × (List Int) × Int)) ([] : List Int) ([] : List Y8) ([] : List Int) 0 ([(0, true), (0, true)] : List (Int × Bool)) ([(0, 1, y0.1, 4, false, false, 1, 1, 90000, 90000)] : List Y1) ([] : List (Int × Bool × Bool × (List (Int × Int)))) ([] : List (Int × Int × (List Int))) ([(0, 1, 0, 0, 1000, 1, 1000, 60)] : List Y3) ([(1, 0, 0, 100, 60, y1.1)] : List Y6) ([(([(1, 0, 0, 0)] : List Y15), y2.1, ([0] : List Int), 1)] : List ((List Y15) × Int × (List Int) × Int)) ([1, 2] : List Int) ([((-1), 0, 0, true, false)] : List Y8) ([0] : List Int) 3 y3.1).bind fun z0 =>
 some (z0.2.2.2, (z0.1, ()))
def gcl_122r (x0 : List Int) (x1 : List Int) (x2 : List Y15) (x3 : Int) (x4 : Int) : Option (Y20 ⊕ Y18) :=
 bif decide (x4 < x3) then
  (idx x2 x4).bind fun v0 =>
  bif (v0.1 == 1) then
   (bif decide (v0.2.1 < ((x0.length : Nat) : Int)) then ((idx x0 v0.2.1).bind fun v1 => some (decide (v1 ≥ (-1)))) else some false).bind fun b0 =>
   (bif b0 then ((idx x0 v0.2.1).bind fun v2 => some (decide (v2 ≤ 1))) else some false).bind fun b1 =>
   bif b1 then
    (idx x0 v0.2.1).bind fun v3 =>
    bif (decide (0 ≤ x4) && decide (x4 < ((x1.length : Nat) : Int))) then
    (x1[x4.toNat]?).bind fun v4 =>
    some (.inl (x0, (x1).set x4.toNat v3, x2, x3, (IntKind.wrap .i64 (x4 + 1)), ()))
    else none
   else
    some (.inl (x0, x1, x2, x3, (IntKind.wrap .i64 (x4 + 1)), ()))
  else
   bif (v0.1 == 2) then
    bif (decide (0 ≤ v0.2.2.1) && decide (v0.2.2.1 < ((x1.length : Nat) : Int))) then
    (x1[v0.2.2.1.toNat]?).bind fun v5 =>
    bif (decide (0 ≤ x4) && decide (x4 < ((x1.length : Nat) : Int))) then
    (x1[x4.toNat]?).bind fun v6 =>
    some (.inl (x0, (x1).set x4.toNat (IntKind.wrap .i64 (0 - v5)), x2, x3, (IntKind.wrap .i64 (x4 + 1)), ()))
    else none
    else none
   else
    bif (v0.1 == 3) then
     bif (decide (0 ≤ v0.2.2.1) && decide (v0.2.2.1 < ((x1.length : Nat) : Int))) then
     (x1[v0.2.2.1.toNat]?).bind fun v7 =>
     bif (decide (0 ≤ v0.2.2.2) && decide (v0.2.2.2 < ((x1.length : Nat) : Int))) then
     (x1[v0.2.2.2.toNat]?).bind fun v8 =>
     bif (decide (0 ≤ x4) && decide (x4 < ((x1.length : Nat) : Int))) then
     (x1[x4.toNat]?).bind fun v9 =>
     some (.inl (x0, (x1).set x4.toNat (bif decide (v8 < v7) then v8 else v7), x2, x3, (IntKind.wrap .i64 (x4 + 1)), ()))
     else none
     else none
     else none
    else
     bif (decide (0 ≤ v0.2.2.1) && decide (v0.2.2.1 < ((x1.length : Nat) : Int))) then
     (x1[v0.2.2.1.toNat]?).bind fun v10 =>
     bif (decide (0 ≤ v0.2.2.2) && decide (v0.2.2.2 < ((x1.length : Nat) : Int))) then
     (x1[v0.2.2.2.toNat]?).bind fun v11 =>
     bif (decide (0 ≤ x4) && decide (x4 < ((x1.length : Nat) : Int))) then
     (x1[x4.toNat]?).bind fun v12 =>
     some (.inl (x0, (x1).set x4.toNat (bif decide (v11 > v10) then v11 else v10), x2, x3, (IntKind.wrap .i64 (x4 + 1)), ()))
     else none
     else none
     else none
 else
  some (.inr (x1, ()))
def gcl_122F (x : Y20) : Option (Y20 ⊕ Y18) := gcl_122r x.1 x.2.1 x.2.2.1 x.2.2.2.1 x.2.2.2.2.1
def gcl_122 (x0 : List Int) (x1 : List Int) (x2 : List Y15) (x3 : Int) (x4 : Int) : Option Y18 := loopL gcl_122F (x0, x1, x2, x3, x4, ())
def gcl (x0 : List Y15) (x1 : List Int) : Option (Int × Unit) :=
 (gbs x0).bind fun y0 =>
 bif (!y0.1) then
  some (0, ())
 else
  bif (decide (0 ≤ ((x0.length : Nat) : Int)) && (decide (((x0.length : Nat) : Int) ≤ ((x0.length : Nat) : Int)) && decide (((x0.length : Nat) : Int) * ((8 : Nat) : Int) ≤ ((140737488355328 : Nat) : Int)))) then
  (gcl_122 x1 (List.replicate ((x0.length : Nat) : Int).toNat (0 : Int)) x0 ((x0.length : Nat) : Int) 0).bind fun z0 =>
  bif (decide (0 ≤ (IntKind.wrap .i64 (((z0.1.length : Nat) : Int) - 1))) && decide ((IntKind.wrap .i64 (((z0.1.length : Nat) : Int) - 1)) < ((z0.1.length : Nat) : Int))) then
  (z0.1[(IntKind.wrap .i64 (((z0.1.length : Nat) : Int) - 1)).toNat]?).bind fun v13 =>
  some (v13, ())
  else none
  else none
def gcm_1018r (x0 : List Int) (x1 : Int) (x2 : List Y17) (x3 : List Int) (x4 : List ((List Y15) × Int × (List Int) × Int)) (x5 : Int) (x6 : Int) : Option ((List Int × Int × List Y17 × List Int × List ((List Y15) × Int × (List Int) × Int) × Int × Int × Unit) ⊕ Y35) :=
 bif decide (x6 < x5) then
  (idx x4 x6).bind fun v0 =>
  bif (decide (0 ≤ x6) && decide (x6 < ((x2.length : Nat) : Int))) then
  (gcl v0.1 x0).bind fun y0 =>
  bif (y0.1 == (-1)) then
   (x2[x6.toNat]?).bind fun v1 =>
   bif (v1.2.1 == (-1)) then
    (x2[x6.toNat]?).bind fun v2 =>
    some (.inl (x0, x1, (x2).set x6.toNat (v2.1, x1, v2.2.2), x3, x4, x5, (IntKind.wrap .i64 (x6 + 1)), ()))
   else
    some (.inl (x0, x1, x2, x3, x4, x5, (IntKind.wrap .i64 (x6 + 1)), ()))
  else
   (x2[x6.toNat]?).bind fun v3 =>
   (((x2).set x6.toNat (v3.1, (-1), v3.2.2))[x6.toNat]?).bind fun v4 =>
   bif (!v4.1) then
    (((x2).set x6.toNat (v3.1, (-1), v3.2.2))[x6.toNat]?).bind fun v5 =>
    ((((x2).set x6.toNat (v3.1, (-1), v3.2.2)).set x6.toNat (true, v5.2.1, v5.2.2))[x6.toNat]?).bind fun v6 =>
    bif decide ((x3.length + 1) * 8 ≤ 140737488355328) then
    some (.inl (x0, x1, (((x2).set x6.toNat (v3.1, (-1), v3.2.2)).set x6.toNat (true, v5.2.1, v5.2.2)).set x6.toNat (v6.1, v6.2.1, y0.1), (x3 ++ ([x6] : List Int)), x4, x5, (IntKind.wrap .i64 (x6 + 1)), ()))
    else none
   else
    some (.inl (x0, x1, (x2).set x6.toNat (v3.1, (-1), v3.2.2), x3, x4, x5, (IntKind.wrap .i64 (x6 + 1)), ()))
  else none
 else
  some (.inr (x2, x3, ()))
def gcm_1018F (x : (List Int × Int × List Y17 × List Int × List ((List Y15) × Int × (List Int) × Int) × Int × Int × Unit)) : Option ((List Int × Int × List Y17 × List Int × List ((List Y15) × Int × (List Int) × Int) × Int × Int × Unit) ⊕ Y35) := gcm_1018r x.1 x.2.1 x.2.2.1 x.2.2.2.1 x.2.2.2.2.1 x.2.2.2.2.2.1 x.2.2.2.2.2.2.1
def gcm_1018 (x0 : List Int) (x1 : Int) (x2 : List Y17) (x3 : List Int) (x4 : List ((List Y15) × Int × (List Int) × Int)) (x5 : Int) (x6 : Int) : Option Y35 := loopL gcm_1018F (x0, x1, x2, x3, x4, x5, x6, ())
def gcm (x0 : List (Int × Bool)) (x1 : List Y1) (x2 : List (Int × Bool × Bool × (List (Int × Int)))) (x3 : List (Int × Int × (List Int))) (x4 : List Y3) (x5 : List Y6) (x6 : List ((List Y15) × Int × (List Int) × Int)) (x7 : List Int) (x8 : List Int) (x9 : List Y17) (x10 : Int) : Option ((List Y17 × List Int × Int × Unit) × Unit) :=
 (gbv x0 x1 x2 x3 x4 x5 x6 x7).bind fun y1 =>
 bif (y1.1 != 0) then
  some ((([] : List Y17), ([] : List Int), y1.1, ()), ())
 else
  (bif (((x8.length : Nat) : Int) != ((x5.length : Nat) : Int)) then some true else some (((x9.length : Nat) : Int) != ((x6.length : Nat) : Int))).bind fun b0 =>
  bif b0 then
   some ((([] : List Y17), ([] : List Int), 11, ()), ())
  else
   (bif decide (x10 < 0) then some true else some (decide (x10 > 2147483648))).bind fun b1 =>
   bif b1 then
    some ((([] : List Y17), ([] : List Int), 8, ()), ())
   else
    bif decide ((0 + x9.length) * 24 ≤ 140737488355328) then
    (gcm_1018 x8 x10 x9 ([] : List Int) x6 ((x6.length : Nat) : Int) 0).bind fun z0 =>
    some ((z0.1, z0.2.1, 0, ()), ())
    else none
def gcn_58r (x0 : List Int) (x1 : List Int) (x2 : Int) : Option (Y7 ⊕ ((Bool × Unit) ⊕ (Unit))) :=
 bif decide (x2 < ((x0.length : Nat) : Int)) then
  (idx x0 x2).bind fun v0 =>
  (idx x1 x2).bind fun v1 =>
  bif (v0 != v1) then
   some (.inr (.inl (false, ())))
  else
   some (.inl (x0, x1, (IntKind.wrap .i64 (x2 + 1)), ()))
 else
  some (.inr (.inr ()))
def gcn_58F (x : Y7) : Option (Y7 ⊕ ((Bool × Unit) ⊕ (Unit))) := gcn_58r x.1 x.2.1 x.2.2.1
def gcn_58 (x0 : List Int) (x1 : List Int) (x2 : Int) : Option ((Bool × Unit) ⊕ (Unit)) := loopL gcn_58F (x0, x1, x2, ())
def gcn (x0 : List Int) (x1 : List Int) : Option (Bool × Unit) :=
 bif (((x0.length : Nat) : Int) != ((x1.length : Nat) : Int)) then
  some (false, ())
 else
  (gcn_58 x0 x1 0).bind fun z0 =>
  sumElim z0 (fun z1 =>
   some (z1.1, ()))
   (fun z2 =>
   some (true, ()))
def gco : Option (Bool × Unit) :=
 (gch).bind fun y0 =>
 (gck y0.1.1 y0.1.2.1).bind fun y1 =>
 (gcg y1.1.1.1 y1.1.1.2.1 y1.1.1.2.2.1 y1.1.1.2.2.2.1 y1.1.1.2.2.2.2.1 y1.1.1.2.2.2.2.2.1 y1.1.1.2.2.2.2.2.2.1 y1.1.1.2.2.2.2.2.2.2.1 ([((-1), 0, 0, 0)] : List Y15) ([(false, (-1), 0)] : List Y17) ([(300, 300)] : List (Int × Int)) 3).bind fun y2 =>
 (gcg y1.1.1.1 y1.1.1.2.1 y1.1.1.2.2.1 y1.1.1.2.2.2.1 y1.1.1.2.2.2.2.1 y1.1.1.2.2.2.2.2.1 y1.1.1.2.2.2.2.2.2.1 y1.1.1.2.2.2.2.2.2.2.1 ([(0, 0, 1, 2)] : List Y15) ([(false, (-1), 0)] : List Y17) ([(300, 300)] : List (Int × Int)) 3).bind fun y3 =>
 (gcm y1.1.1.1 y1.1.1.2.1 y1.1.1.2.2.1 y1.1.1.2.2.2.1 y1.1.1.2.2.2.2.1 y1.1.1.2.2.2.2.2.1 y1.1.1.2.2.2.2.2.2.1 y1.1.1.2.2.2.2.2.2.2.1 y2.1.1 ([(false, 2, 0)] : List Y17) 3).bind fun y4 =>
 (gcm y1.1.1.1 y1.1.1.2.1 y1.1.1.2.2.1 y1.1.1.2.2.2.1 y1.1.1.2.2.2.2.1 y1.1.1.2.2.2.2.2.1 y1.1.1.2.2.2.2.2.2.1 y1.1.1.2.2.2.2.2.2.2.1 y3.1.1 ([(false, (-1), 0)] : List Y17) 3).bind fun y5 =>
 (gbv y1.1.1.1 y1.1.1.2.1 y1.1.1.2.2.1 y1.1.1.2.2.2.1 y1.1.1.2.2.2.2.1 y1.1.1.2.2.2.2.2.1 y1.1.1.2.2.2.2.2.2.1 y1.1.1.2.2.2.2.2.2.2.1).bind fun y6 =>
 (bif (y6.1 == 0) then some (y2.1.2.2.1 == 0) else some false).bind fun b0 =>
 (bif b0 then some (y3.1.2.2.1 == 0) else some false).bind fun b1 =>
 (bif b1 then ((gcn y2.1.1 ([0] : List Int)).bind fun y7 => some y7.1) else some false).bind fun b2 =>
 (bif b2 then ((gcn y3.1.1 ([(-1)] : List Int)).bind fun y8 => some y8.1) else some false).bind fun b3 =>
 (bif b3 then some (((y2.1.2.1.length : Nat) : Int) == 1) else some false).bind fun b4 =>
 (bif b4 then (bif (decide (0 ≤ 0) && decide (0 < ((y2.1.2.1.length : Nat) : Int))) then ((y2.1.2.1[0]?).bind fun v0 => some v0.1) else none) else some false).bind fun b5 =>
 (bif b5 then some (y4.1.2.2.1 == 0) else some false).bind fun b6 =>
 (bif b6 then some (y5.1.2.2.1 == 0) else some false).bind fun b7 =>
 (bif b7 then ((gcn y4.1.2.1 ([0] : List Int)).bind fun y9 => some y9.1) else some false).bind fun b8 =>
 (bif b8 then some (((y5.1.2.1.length : Nat) : Int) == 0) else some false).bind fun b9 =>
 (bif b9 then some (((y4.1.1.length : Nat) : Int) == 1) else some false).bind fun b10 =>
 (bif b10 then (bif (decide (0 ≤ 0) && decide (0 < ((y4.1.1.length : Nat) : Int))) then ((y4.1.1[0]?).bind fun v1 => some ((v1.1 == true) && ((v1.2.1 == (-1)) && ((v1.2.2 == 0) && true)))) else none) else some false).bind fun b11 =>
 (bif b11 then some (((y5.1.1.length : Nat) : Int) == 1) else some false).bind fun b12 =>
 (bif b12 then (bif (decide (0 ≤ 0) && decide (0 < ((y5.1.1.length : Nat) : Int))) then ((y5.1.1[0]?).bind fun v2 => some ((v2.1 == false) && ((v2.2.1 == 3) && ((v2.2.2 == 0) && true)))) else none) else some false).bind fun b13 =>
 some (b13, ())
def gcp_1018r (x0 : Int) (x1 : List (Int × Bool)) (x2 : List Y1) (x3 : List (Int × Bool × Bool × (List (Int × Int)))) (x4 : List (Int × Int × (List Int))) (x5 : List Y3) (x6 : List Y6) (x7 : List ((List Y15) × Int × (List Int) × Int)) (x8 : List Int) (x9 : List Y15) (x10 : List Y17) (x11 : List (Int × Int)) (x12 : Int) (x13 : List Y15) (x14 : Int) (x15 : Int) : Option ((Int × (List (Int × Bool) × List Y1 × List (Int × Bool × Bool × (List (Int × Int))) × List (Int × Int × (List Int)) × List Y3 × List Y6 × List ((List Y15) × Int × (List Int) × Int) × List Int × Unit) × List Y15 × List Y17 × List (Int × Int) × Int × List Y15 × Int × Int × Unit) ⊕ (Int × (List (Int × Bool) × List Y1 × List (Int × Bool × Bool × (List (Int × Int))) × List (Int × Int × (List Int)) × List Y3 × List Y6 × List ((List Y15) × Int × (List Int) × Int) × List Int × Unit) × List Y15 × List Y17 × List (Int × Int) × Int × List Y15 × Unit)) :=
 bif decide (x15 < x14) then
  bif (decide (0 ≤ x15) && decide (x15 < ((x13.length : Nat) : Int))) then
  (x13[x15.toNat]?).bind fun v0 =>
  (gaz).bind fun y0 =>
  bif (!((v0.2.2.1 == y0.1.1) && ((v0.2.2.2 == y0.1.2.1) && true))) then
   bif (decide (0 ≤ x15) && decide (x15 < ((x13.length : Nat) : Int))) then
   (x13[x15.toNat]?).bind fun v1 =>
   bif (decide (0 ≤ x15) && decide (x15 < ((x13.length : Nat) : Int))) then
   (x13[x15.toNat]?).bind fun v2 =>
   bif (decide (0 ≤ x15) && decide (x15 < ((((x13).set x15.toNat (v2.1, v2.2.1, (IntKind.wrap .i64 (v1.2.2.1 - (Int.tmod (IntKind.wrap .i64 x0) 7))), v2.2.2.2)).length : Nat) : Int))) then
   (((x13).set x15.toNat (v2.1, v2.2.1, (IntKind.wrap .i64 (v1.2.2.1 - (Int.tmod (IntKind.wrap .i64 x0) 7))), v2.2.2.2))[x15.toNat]?).bind fun v3 =>
   bif (decide (0 ≤ x15) && decide (x15 < ((((x13).set x15.toNat (v2.1, v2.2.1, (IntKind.wrap .i64 (v1.2.2.1 - (Int.tmod (IntKind.wrap .i64 x0) 7))), v2.2.2.2)).length : Nat) : Int))) then
   (((x13).set x15.toNat (v2.1, v2.2.1, (IntKind.wrap .i64 (v1.2.2.1 - (Int.tmod (IntKind.wrap .i64 x0) 7))), v2.2.2.2))[x15.toNat]?).bind fun v4 =>
   some (.inl (x0, (x1, x2, x3, x4, x5, x6, x7, x8, ()), x9, x10, x11, x12, ((x13).set x15.toNat (v2.1, v2.2.1, (IntKind.wrap .i64 (v1.2.2.1 - (Int.tmod (IntKind.wrap .i64 x0) 7))), v2.2.2.2)).set x15.toNat (v4.1, v4.2.1, v4.2.2.1, (IntKind.wrap .i64 (v3.2.2.2 + (Int.tmod (IntKind.wrap .i64 x0) 5)))), x14, (IntKind.wrap .i64 (x15 + 1)), ()))
   else none
   else none
   else none
   else none
  else
   some (.inl (x0, (x1, x2, x3, x4, x5, x6, x7, x8, ()), x9, x10, x11, x12, x13, x14, (IntKind.wrap .i64 (x15 + 1)), ()))
  else none
 else
  some (.inr (x0, (x1, x2, x3, x4, x5, x6, x7, x8, ()), x9, x10, x11, x12, x13, ()))
def gcp_1018F (x : (Int × (List (Int × Bool) × List Y1 × List (Int × Bool × Bool × (List (Int × Int))) × List (Int × Int × (List Int)) × List Y3 × List Y6 × List ((List Y15) × Int × (List Int) × Int) × List Int × Unit) × List Y15 × List Y17 × List (Int × Int) × Int × List Y15 × Int × Int × Unit)) : Option ((Int × (List (Int × Bool) × List Y1 × List (Int × Bool × Bool × (List (Int × Int))) × List (Int × Int × (List Int)) × List Y3 × List Y6 × List ((List Y15) × Int × (List Int) × Int) × List Int × Unit) × List Y15 × List Y17 × List (Int × Int) × Int × List Y15 × Int × Int × Unit) ⊕ (Int × (List (Int × Bool) × List Y1 × List (Int × Bool × Bool × (List (Int × Int))) × List (Int × Int × (List Int)) × List Y3 × List Y6 × List ((List Y15) × Int × (List Int) × Int) × List Int × Unit) × List Y15 × List Y17 × List (Int × Int) × Int × List Y15 × Unit)) := gcp_1018r x.1 x.2.1.1 x.2.1.2.1 x.2.1.2.2.1 x.2.1.2.2.2.1 x.2.1.2.2.2.2.1 x.2.1.2.2.2.2.2.1 x.2.1.2.2.2.2.2.2.1 x.2.1.2.2.2.2.2.2.2.1 x.2.2.1 x.2.2.2.1 x.2.2.2.2.1 x.2.2.2.2.2.1 x.2.2.2.2.2.2.1 x.2.2.2.2.2.2.2.1 x.2.2.2.2.2.2.2.2.1
def gcp_1018 (x0 : Int) (x1 : List (Int × Bool)) (x2 : List Y1) (x3 : List (Int × Bool × Bool × (List (Int × Int)))) (x4 : List (Int × Int × (List Int))) (x5 : List Y3) (x6 : List Y6) (x7 : List ((List Y15) × Int × (List Int) × Int)) (x8 : List Int) (x9 : List Y15) (x10 : List Y17) (x11 : List (Int × Int)) (x12 : Int) (x13 : List Y15) (x14 : Int) (x15 : Int) : Option (Int × (List (Int × Bool) × List Y1 × List (Int × Bool × Bool × (List (Int × Int))) × List (Int × Int × (List Int)) × List Y3 × List Y6 × List ((List Y15) × Int × (List Int) × Int) × List Int × Unit) × List Y15 × List Y17 × List (Int × Int) × Int × List Y15 × Unit) := loopL gcp_1018F (x0, (x1, x2, x3, x4, x5, x6, x7, x8, ()), x9, x10, x11, x12, x13, x14, x15, ())
def gcp_4090r (x0 : Int) (x1 : List (Int × Bool)) (x2 : List Y1) (x3 : List (Int × Bool × Bool × (List (Int × Int)))) (x4 : List (Int × Int × (List Int))) (x5 : List Y3) (x6 : List Y6) (x7 : List ((List Y15) × Int × (List Int) × Int)) (x8 : List Int) (x9 : List Y15) (x10 : List Y17) (x11 : List (Int × Int)) (x12 : Int) (x13 : List Y15) (x14 : List (Int × Int)) (x15 : Int) (x16 : Int) : Option ((Int × (List (Int × Bool) × List Y1 × List (Int × Bool × Bool × (List (Int × Int))) × List (Int × Int × (List Int)) × List Y3 × List Y6 × List ((List Y15) × Int × (List Int) × Int) × List Int × Unit) × List Y15 × List Y17 × List (Int × Int) × Int × List Y15 × List (Int × Int) × Int × Int × Unit) ⊕ ((List (Int × Bool) × List Y1 × List (Int × Bool × Bool × (List (Int × Int))) × List (Int × Int × (List Int)) × List Y3 × List Y6 × List ((List Y15) × Int × (List Int) × Int) × List Int × Unit) × List Y15 × List Y17 × List (Int × Int) × Int × List Y15 × List (Int × Int) × Unit)) :=
 bif decide (x16 < x15) then
  bif (decide (0 ≤ x16) && decide (x16 < ((x14.length : Nat) : Int))) then
  (x14[x16.toNat]?).bind fun v5 =>
  bif (decide (0 ≤ x16) && decide (x16 < ((x14.length : Nat) : Int))) then
  (x14[x16.toNat]?).bind fun v6 =>
  bif (decide (0 ≤ x16) && decide (x16 < ((x14.length : Nat) : Int))) then
  (x14[x16.toNat]?).bind fun v7 =>
  bif (decide (0 ≤ x16) && decide (x16 < ((((x14).set x16.toNat ((IntKind.wrap .i64 (v5.1 - (Int.tmod (IntKind.wrap .i64 x0) 9))), v7.2)).length : Nat) : Int))) then
  (((x14).set x16.toNat ((IntKind.wrap .i64 (v5.1 - (Int.tmod (IntKind.wrap .i64 x0) 9))), v7.2))[x16.toNat]?).bind fun v8 =>
  some (.inl (x0, (x1, x2, x3, x4, x5, x6, x7, x8, ()), x9, x10, x11, x12, x13, ((x14).set x16.toNat ((IntKind.wrap .i64 (v5.1 - (Int.tmod (IntKind.wrap .i64 x0) 9))), v7.2)).set x16.toNat (v8.1, (IntKind.wrap .i64 (v6.2 + (Int.tmod (IntKind.wrap .i64 x0) 4)))), x15, (IntKind.wrap .i64 (x16 + 1)), ()))
  else none
  else none
  else none
  else none
 else
  some (.inr ((x1, x2, x3, x4, x5, x6, x7, x8, ()), x9, x10, x11, x12, x13, x14, ()))
def gcp_4090F (x : (Int × (List (Int × Bool) × List Y1 × List (Int × Bool × Bool × (List (Int × Int))) × List (Int × Int × (List Int)) × List Y3 × List Y6 × List ((List Y15) × Int × (List Int) × Int) × List Int × Unit) × List Y15 × List Y17 × List (Int × Int) × Int × List Y15 × List (Int × Int) × Int × Int × Unit)) : Option ((Int × (List (Int × Bool) × List Y1 × List (Int × Bool × Bool × (List (Int × Int))) × List (Int × Int × (List Int)) × List Y3 × List Y6 × List ((List Y15) × Int × (List Int) × Int) × List Int × Unit) × List Y15 × List Y17 × List (Int × Int) × Int × List Y15 × List (Int × Int) × Int × Int × Unit) ⊕ ((List (Int × Bool) × List Y1 × List (Int × Bool × Bool × (List (Int × Int))) × List (Int × Int × (List Int)) × List Y3 × List Y6 × List ((List Y15) × Int × (List Int) × Int) × List Int × Unit) × List Y15 × List Y17 × List (Int × Int) × Int × List Y15 × List (Int × Int) × Unit)) := gcp_4090r x.1 x.2.1.1 x.2.1.2.1 x.2.1.2.2.1 x.2.1.2.2.2.1 x.2.1.2.2.2.2.1 x.2.1.2.2.2.2.2.1 x.2.1.2.2.2.2.2.2.1 x.2.1.2.2.2.2.2.2.2.1 x.2.2.1 x.2.2.2.1 x.2.2.2.2.1 x.2.2.2.2.2.1 x.2.2.2.2.2.2.1 x.2.2.2.2.2.2.2.1 x.2.2.2.2.2.2.2.2.1 x.2.2.2.2.2.2.2.2.2.1
def gcp_4090 (x0 : Int) (x1 : List (Int × Bool)) (x2 : List Y1) (x3 : List (Int × Bool × Bool × (List (Int × Int)))) (x4 : List (Int × Int × (List Int))) (x5 : List Y3) (x6 : List Y6) (x7 : List ((List Y15) × Int × (List Int) × Int)) (x8 : List Int) (x9 : List Y15) (x10 : List Y17) (x11 : List (Int × Int)) (x12 : Int) (x13 : List Y15) (x14 : List (Int × Int)) (x15 : Int) (x16 : Int) : Option ((List (Int × Bool) × List Y1 × List (Int × Bool × Bool × (List (Int × Int))) × List (Int × Int × (List Int)) × List Y3 × List Y6 × List ((List Y15) × Int × (List Int) × Int) × List Int × Unit) × List Y15 × List Y17 × List (Int × Int) × Int × List Y15 × List (Int × Int) × Unit) := loopL gcp_4090F (x0, (x1, x2, x3, x4, x5, x6, x7, x8, ()), x9, x10, x11, x12, x13, x14, x15, x16, ())
def gcp_65530r (x0 : List Int) (x1 : List Y17) (x2 : List Int) (x3 : List Y17) (x4 : Int) (x5 : Int) : Option (Y19 ⊕ ((Bool × Unit) ⊕ (Unit))) :=
 bif decide (x5 < x4) then
  bif (decide (0 ≤ x5) && decide (x5 < ((x2.length : Nat) : Int))) then
  (x2[x5.toNat]?).bind fun v9 =>
  (bif (v9 == (-1)) then (bif (decide (0 ≤ x5) && decide (x5 < ((x0.length : Nat) : Int))) then ((x0[x5.toNat]?).bind fun v10 => some (v10 != (-1))) else none) else some false).bind fun b0 =>
  (bif b0 then some true else (bif (decide (0 ≤ x5) && decide (x5 < ((x2.length : Nat) : Int))) then ((x2[x5.toNat]?).bind fun v11 => ((bif (v11 == 1) then (bif (decide (0 ≤ x5) && decide (x5 < ((x0.length : Nat) : Int))) then ((x0[x5.toNat]?).bind fun v12 => some (v12 != 1)) else none) else some false).bind fun b1 => some b1)) else none)).bind fun b2 =>
  (bif b2 then some true else (bif (decide (0 ≤ x5) && decide (x5 < ((x1.length : Nat) : Int))) then ((x1[x5.toNat]?).bind fun v13 => ((bif v13.1 then (bif (decide (0 ≤ x5) && decide (x5 < ((x3.length : Nat) : Int))) then ((x3[x5.toNat]?).bind fun v14 => some (!v14.1)) else none) else some false).bind fun b3 => some b3)) else none)).bind fun b4 =>
  bif b4 then
   some (.inr (.inl (false, ())))
  else
   some (.inl (x0, x1, x2, x3, x4, (IntKind.wrap .i64 (x5 + 1)), ()))
  else none
 else
  some (.inr (.inr ()))
def gcp_65530F (x : Y19) : Option (Y19 ⊕ ((Bool × Unit) ⊕ (Unit))) := gcp_65530r x.1 x.2.1 x.2.2.1 x.2.2.2.1 x.2.2.2.2.1 x.2.2.2.2.2.1
def gcp_65530 (x0 : List Int) (x1 : List Y17) (x2 : List Int) (x3 : List Y17) (x4 : Int) (x5 : Int) : Option ((Bool × Unit) ⊕ (Unit)) := loopL gcp_65530F (x0, x1, x2, x3, x4, x5, ())
def gcp (x0 : List Int) (x1 : Int) (x2 : Int) : Option (Bool × Unit) :=
 (gaa x0).bind fun y1 =>
 (gaw y1.1.1 y1.1.2.1).bind fun y2 =>
 (gbc y2.2.1.1 y2.2.1.2.1 y2.1.1.1 y2.1.1.2.1 y2.1.1.2.2.1 y2.1.1.2.2.2.1 y2.1.1.2.2.2.2.1 y2.1.1.2.2.2.2.2.1 y2.1.1.2.2.2.2.2.2.1 y2.1.1.2.2.2.2.2.2.2.1).bind fun y3 =>
 (gbe y3.2.1.1 y3.2.1.2.1 y2.1.1.1 y2.1.1.2.1 y2.1.1.2.2.1 y2.1.1.2.2.2.1 y2.1.1.2.2.2.2.1 y2.1.1.2.2.2.2.2.1 y2.1.1.2.2.2.2.2.2.1 y2.1.1.2.2.2.2.2.2.2.1).bind fun y4 =>
 (gbf y4.2.1.1 y4.2.1.2.1 y2.1.2.2.1.2.1).bind fun y5 =>
 bif decide ((0 + y3.1.length) * 32 ≤ 140737488355328) then
 (gcp_1018 x1 y2.1.1.1 y2.1.1.2.1 y2.1.1.2.2.1 y2.1.1.2.2.2.1 y2.1.1.2.2.2.2.1 y2.1.1.2.2.2.2.2.1 y2.1.1.2.2.2.2.2.2.1 y2.1.1.2.2.2.2.2.2.2.1 y3.1 y4.1 y5.1 (IntKind.wrap .i64 (20 + (IntKind.wrap .i64 x2))) y3.1 ((y3.1.length : Nat) : Int) 0).bind fun z0 =>
 bif decide ((0 + z0.2.2.2.2.1.length) * 16 ≤ 140737488355328) then
 (gcp_4090 z0.1 z0.2.1.1 z0.2.1.2.1 z0.2.1.2.2.1 z0.2.1.2.2.2.1 z0.2.1.2.2.2.2.1 z0.2.1.2.2.2.2.2.1 z0.2.1.2.2.2.2.2.2.1 z0.2.1.2.2.2.2.2.2.2.1 z0.2.2.1 z0.2.2.2.1 z0.2.2.2.2.1 z0.2.2.2.2.2.1 z0.2.2.2.2.2.2.1 z0.2.2.2.2.1 ((z0.2.2.2.2.1.length : Nat) : Int) 0).bind fun z1 =>
 (gcg z1.1.1 z1.1.2.1 z1.1.2.2.1 z1.1.2.2.2.1 z1.1.2.2.2.2.1 z1.1.2.2.2.2.2.1 z1.1.2.2.2.2.2.2.1 z1.1.2.2.2.2.2.2.2.1 z1.2.1 z1.2.2.1 z1.2.2.2.1 z1.2.2.2.2.1).bind fun y6 =>
 (gcg z1.1.1 z1.1.2.1 z1.1.2.2.1 z1.1.2.2.2.1 z1.1.2.2.2.2.1 z1.1.2.2.2.2.2.1 z1.1.2.2.2.2.2.2.1 z1.1.2.2.2.2.2.2.2.1 z1.2.2.2.2.2.1 z1.2.2.1 z1.2.2.2.2.2.2.1 z1.2.2.2.2.1).bind fun y7 =>
 (bif (y6.1.2.2.1 != 0) then some true else some (y7.1.2.2.1 != 0)).bind fun b5 =>
 (bif b5 then some true else some (((y6.1.1.length : Nat) : Int) != ((z1.1.2.2.2.2.2.1.length : Nat) : Int))).bind fun b6 =>
 (bif b6 then some true else some (((y7.1.1.length : Nat) : Int) != ((y6.1.1.length : Nat) : Int))).bind fun b7 =>
 (bif b7 then some true else some (((y6.1.2.1.length : Nat) : Int) != ((y6.1.1.length : Nat) : Int))).bind fun b8 =>
 (bif b8 then some true else some (((y7.1.2.1.length : Nat) : Int) != ((y6.1.1.length : Nat) : Int))).bind fun b9 =>
 bif b9 then
  some (false, ())
 else
  (gcp_65530 y6.1.1 y6.1.2.1 y7.1.1 y7.1.2.1 ((y6.1.1.length : Nat) : Int) 0).bind fun z2 =>
  sumElim z2 (fun z3 =>
   some (z3.1, ()))
   (fun z4 =>
   (gco).bind fun y8 =>
   some (y8.1, ()))
 else none
 else none
end
end Go.V
