/-
  The data that the functions make which CutoffCuts reaches: plain Lean, printed by a program.
  gaa = draw_New_n
  gab = draw_Next_o
  gac = draw_Range_o
  gad = draw_Easy_o
  gae = plan_spanIn
  gaf = plan_Check
  gag = fan_Check
  gah = door_Check
  gai = branch_Check
  gaj = sensor_in
  gak = sensor_Check
  gal = cutoff_has
  gam = cutoff_checkSensors
  gan = level_Check
  gao = cutoff_checkCond
  gap = rule_part
  gaq = rule_right
  gar = rule_Check
  gas = cutoff_checkZone
  gat = cutoff_Check
  gau = sensor_Nothing
  gav = window_plain
  gaw = window_At
  gax = cutoff_Known
  gay = window_Above
  gaz = level_Step
  gba = cutoff_over
  gbb = cutoff_stopped
  gbc = airflow_fed
  gbd = airflow_Fed
  gbe = cutoff_Values
  gbf = rule_Eval
  gbg = cutoff_Cuts
  gbh = ref01_Ints
  gbi = law20_awake
  gbj = draw_New
  gbk = draw_Next
  gbl = draw_One
  gbm = draw_Range
  gbn = draw_Road
  gbo = draw_Curve
  gbp = draw_Door_h4
  gbq = draw_equipped_soooo
  gbr = ref08_Rest
  gbs = ref05_Floor
  gbt = ref05_Ceil
  gbu = ref07_Inner
  gbv = ref07_Along
  gbw = ref07_State
  gbx = draw_fit_soooobbbb
  gby = draw_doubts
  gbz = draw_Made_h14
  gca = ref05_Stately
  gcb = draw_Sensor
  gcc = draw_Level
  gcd = draw_Cond
  gce = draw_Rule
  gcf = draw_Site
  gcg = draw_Truth
  gch = draw_Mod
  gci = ref01_Span
  gcj = ref01_Check
  gck = ref07_Check
  gcl = ref08_Check
  gcm = ref09_Check
  gcn = ref05_in
  gco = ref05_Check
  gcp = ref20_sensors
  gcq = ref17_Check
  gcr = ref20_cond
  gcs = ref19_part
  gct = ref19_Right
  gcu = ref19_Check
  gcv = ref20_zone
  gcw = ref20_Check
  gcx = ref19_value
  gcy = ref19_Eval
  gcz = ref20_Cuts
  gda = ref20_SameCuts
  gdb = law20_CutoffCuts
-/
import Derived.Test.YtedhbknblmfgeaaVCutoffCutsc
set_option linter.all false
namespace Go.V
open Go
noncomputable section
open Go.IntKind (wrap)
abbrev Y1 : Type := Int × Int × Int × Int × Bool × Bool × Int × Int × Int × Int
abbrev Y2 : Type := Int × Int × Int × Int × Int × Int × Int × Int × Unit
abbrev Y3 : Type := Int × Int × Int × Int × Int × Int × Int × Int
abbrev Y4 : Type := Int × Int × Int × Int × Int × Int × Unit
abbrev Y5 : Type := Int × Int × Int × Int × Int × Int
abbrev Y6 : Type := Int × Int × Int × Bool × Bool
abbrev Y7 : Type := Int × Int × List Int × Unit
abbrev Y8 : Type := List Int × List Int × Unit
abbrev Y9 : Type := Int × Int × Bool × Unit
abbrev Y10 : Type := Bool × Int × Int × Unit
abbrev Y11 : Type := List Int × Int × Unit
abbrev Y12 : Type := Int × Int × Int × Int
abbrev Y13 : Type := Int × Int × List Int
abbrev Y14 : Type := Int × Int × Unit
abbrev Y15 : Type := Bool × Int × Int
abbrev Y16 : Type := List Int × Unit
abbrev Y17 : Type := List Y12 × Int × List Int × Int × Unit
abbrev Y18 : Type := Y11 × List Y12 × List Y12 × Int × Unit
abbrev Y19 : Type := Y11 × List Y12 × List Y12 × Unit
abbrev Y20 : Type := List Y13 × Int × Y7 × Int × Unit
abbrev Y21 : Type := List Y12 × Int × List Int × Int
abbrev Y22 : Type := List Y6 × List Int × Int × Unit
abbrev Y23 : Type := Y11 × Y8 × Y8 × Y8 × Int × Unit
abbrev Y24 : Type := Y11 × Int × Int × Unit
abbrev Y25 : Type := List Y12 × Int × Unit
abbrev Y26 : Type := Y11 × Y4 × Unit
def gaa : Option (Y11 × Unit) :=
 some ((([] : List Int), 0, ()), ())
def gab_63 (x0 : List Int) (x1 x2 x3 : Int) : Option (Y11 × Int × Unit) :=
 bif (!decide (x2 = 0)) then
 some ((x0, x1, ()), (Int.tmod x3 x2), ())
 else none
def gab (x0 : List Int) (x1 x2 : Int) : Option (Int × (Y11 × Unit)) :=
 (bif decide (x2 < 1) then some true else some (decide (x1 ≥ (x0.length : Int)))).bind fun b0 =>
 bif b0 then
  some (0, ((x0, x1, ()), ()))
 else
  bif (decide (0 ≤ (wrap .i64 ((wrap .i64 (x1 + 1)) - 1))) && decide ((wrap .i64 ((wrap .i64 (x1 + 1)) - 1)) < (x0.length : Int))) then
  (x0[(wrap .i64 ((wrap .i64 (x1 + 1)) - 1)).toNat]?).bind fun v0 =>
  (bif decide (x2 > 256) then some (decide ((wrap .i64 (x1 + 1)) < (x0.length : Int))) else some false).bind fun b1 =>
  bif b1 then
   bif (decide (0 ≤ (wrap .i64 (x1 + 1))) && decide ((wrap .i64 (x1 + 1)) < (x0.length : Int))) then
   (x0[(wrap .i64 (x1 + 1)).toNat]?).bind fun v1 =>
   (gab_63 x0 (wrap .i64 ((wrap .i64 (x1 + 1)) + 1)) x2 (wrap .i64 ((wrap .i64 ((wrap .i64 v0) * 256)) + (wrap .i64 v1)))).bind fun z0 =>
   some (z0.2.1, (z0.1, ()))
   else none
  else
   (gab_63 x0 (wrap .i64 (x1 + 1)) x2 (wrap .i64 v0)).bind fun z1 =>
   some (z1.2.1, (z1.1, ()))
  else none
def gac (x0 : List Int) (x1 x2 x3 : Int) : Option (Int × (Y11 × Unit)) :=
 (gab x0 x1 (wrap .i64 ((wrap .i64 (x3 - x2)) + 1))).bind fun y0 =>
 some ((wrap .i64 (x2 + y0.1)), y0.2)
def gad_506r (x0 : List Int) (x1 : Int) (x2 : List (Int × Bool)) (x3 : List Y1) (x4 : List (Int × Bool × Bool × List (Int × Int))) (x5 : List Y13) (x6 : List Y3) (x7 : List Y5) (x8 : List Y21) (x9 : List Int) (x10 : List Y6) (x11 : List Int) (x12 : Int) (x13 : List (Int × Bool)) (x14 : List Y1) (x15 : List (Int × Bool × Bool × List (Int × Int))) (x16 : List Y13) (x17 : List Y3) (x18 : List Y5) (x19 : List Y21) (x20 : List Int) (x21 : List Y6) (x22 : List Int) (x23 x24 : Int) : Option ((Y11 × (List (Int × Bool) × List Y1 × List (Int × Bool × Bool × List (Int × Int)) × List Y13 × List Y3 × List Y5 × List Y21 × List Int × Unit) × Y22 × (List (Int × Bool) × List Y1 × List (Int × Bool × Bool × List (Int × Int)) × List Y13 × List Y3 × List Y5 × List Y21 × List Int × Unit) × Y22 × Int × Unit) ⊕ (Y11 × (List (Int × Bool) × List Y1 × List (Int × Bool × Bool × List (Int × Int)) × List Y13 × List Y3 × List Y5 × List Y21 × List Int × Unit) × Y22 × (List (Int × Bool) × List Y1 × List (Int × Bool × Bool × List (Int × Int)) × List Y13 × List Y3 × List Y5 × List Y21 × List Int × Unit) × Y22 × Unit)) :=
 bif decide (x24 > 0) then
  bif decide ((x21.length + 1) * 32 ≤ 140737488355328) then
  bif (decide (0 ≤ 0) && decide (0 < (x22.length : Int))) then
  (x22[0]?).bind fun v0 =>
  some (.inl ((x0, x1, ()), (x2, x3, x4, x5, x6, x7, x8, x9, ()), (x10, x11, x12, ()), (x13, x14, x15, x16, x17, x18, x19, x20, ()), ((x21 ++ ([((wrap .i64 ((x21.length : Int) - 1)), 0, 0, true, false)] : List Y6)), (x22).set 0 (wrap .i64 (((x21 ++ ([((wrap .i64 ((x21.length : Int) - 1)), 0, 0, true, false)] : List Y6)).length : Int) - 1)), x23, ()), (wrap .i64 (x24 - 1)), ()))
  else none
  else none
 else
  some (.inr ((x0, x1, ()), (x2, x3, x4, x5, x6, x7, x8, x9, ()), (x10, x11, x12, ()), (x13, x14, x15, x16, x17, x18, x19, x20, ()), (x21, x22, x23, ()), ()))
def gad_506F (x : (Y11 × (List (Int × Bool) × List Y1 × List (Int × Bool × Bool × List (Int × Int)) × List Y13 × List Y3 × List Y5 × List Y21 × List Int × Unit) × Y22 × (List (Int × Bool) × List Y1 × List (Int × Bool × Bool × List (Int × Int)) × List Y13 × List Y3 × List Y5 × List Y21 × List Int × Unit) × Y22 × Int × Unit)) := gad_506r x.1.1 x.1.2.1 x.2.1.1 x.2.1.2.1 x.2.1.2.2.1 x.2.1.2.2.2.1 x.2.1.2.2.2.2.1 x.2.1.2.2.2.2.2.1 x.2.1.2.2.2.2.2.2.1 x.2.1.2.2.2.2.2.2.2.1 x.2.2.1.1 x.2.2.1.2.1 x.2.2.1.2.2.1 x.2.2.2.1.1 x.2.2.2.1.2.1 x.2.2.2.1.2.2.1 x.2.2.2.1.2.2.2.1 x.2.2.2.1.2.2.2.2.1 x.2.2.2.1.2.2.2.2.2.1 x.2.2.2.1.2.2.2.2.2.2.1 x.2.2.2.1.2.2.2.2.2.2.2.1 x.2.2.2.2.1.1 x.2.2.2.2.1.2.1 x.2.2.2.2.1.2.2.1 x.2.2.2.2.2.1
def gad_506 (x0 : List Int) (x1 : Int) (x2 : List (Int × Bool)) (x3 : List Y1) (x4 : List (Int × Bool × Bool × List (Int × Int))) (x5 : List Y13) (x6 : List Y3) (x7 : List Y5) (x8 : List Y21) (x9 : List Int) (x10 : List Y6) (x11 : List Int) (x12 : Int) (x13 : List (Int × Bool)) (x14 : List Y1) (x15 : List (Int × Bool × Bool × List (Int × Int))) (x16 : List Y13) (x17 : List Y3) (x18 : List Y5) (x19 : List Y21) (x20 : List Int) (x21 : List Y6) (x22 : List Int) (x23 x24 : Int) := loopL gad_506F ((x0, x1, ()), (x2, x3, x4, x5, x6, x7, x8, x9, ()), (x10, x11, x12, ()), (x13, x14, x15, x16, x17, x18, x19, x20, ()), (x21, x22, x23, ()), x24, ())
def gad (x0 : List Int) (x1 : Int) : Option (((List (Int × Bool) × List Y1 × List (Int × Bool × Bool × List (Int × Int)) × List Y13 × List Y3 × List Y5 × List Y21 × List Int × Unit) × Y22 × Unit) × (Y11 × Unit)) :=
 (gac x0 x1 1 4).bind fun y0 =>
 (gac y0.2.1.1 y0.2.1.2.1 1 5).bind fun y1 =>
 (gac y1.2.1.1 y1.2.1.2.1 1 5).bind fun y2 =>
 (gab y2.2.1.1 y2.2.1.2.1 3).bind fun y3 =>
 (gad_506 y3.2.1.1 y3.2.1.2.1 ([] : List (Int × Bool)) ([] : List Y1) ([] : List (Int × Bool × Bool × List (Int × Int))) ([] : List Y13) ([] : List Y3) ([] : List Y5) ([] : List Y21) ([] : List Int) ([] : List Y6) ([] : List Int) 0 ([(0, true), (0, true)] : List (Int × Bool)) ([(0, 1, y0.1, 4, false, false, 1, 1, 90000, 90000)] : List Y1) ([] : List (Int × Bool × Bool × List (Int × Int))) ([] : List Y13) ([(0, 1, 0, 0, 1000, 1, 1000, 60)] : List Y3) ([(1, 0, 0, 100, 60, y1.1)] : List Y5) ([(([(1, 0, 0, 0)] : List Y12), y2.1, ([0] : List Int), 1)] : List Y21) ([1, 2] : List Int) ([((-1), 0, 0, true, false)] : List Y6) ([0] : List Int) 3 y3.1).bind fun z0 =>
 some (z0.2.2.2, (z0.1, ()))
def gae (x0 x1 x2 x3 : Int) : Option (Bool × Unit) :=
 (bif decide (x2 ≤ x0) then some (decide (x0 ≤ x1)) else some false).bind fun b0 =>
 (bif b0 then some (decide (x1 ≤ x3)) else some false).bind fun b1 =>
 some (b1, ())
def gaf_58r (x0 : List (Int × Bool)) (x1 : List Y1) (x2 : List (Int × Bool)) (x3 x4 : Int) : Option (((List (Int × Bool) × List Y1 × Unit) × List (Int × Bool) × Int × Int × Unit) ⊕ ((Int × Unit) ⊕ ((List (Int × Bool) × List Y1 × Unit) × Unit))) :=
 bif decide (x4 < x3) then
  (idx x2 x4).bind fun v0 =>
  (bif decide (v0.1 < (-10000)) then some true else some (decide (v0.1 > 10000))).bind fun b0 =>
  bif b0 then
   some (.inr (.inl (1, ())))
  else
   some (.inl ((x0, x1, ()), x2, x3, (wrap .i64 (x4 + 1)), ()))
 else
  some (.inr (.inr ((x0, x1, ()), ())))
def gaf_58F (x : ((List (Int × Bool) × List Y1 × Unit) × List (Int × Bool) × Int × Int × Unit)) := gaf_58r x.1.1 x.1.2.1 x.2.1 x.2.2.1 x.2.2.2.1
def gaf_58 (x0 : List (Int × Bool)) (x1 : List Y1) (x2 : List (Int × Bool)) (x3 x4 : Int) := loopL gaf_58F ((x0, x1, ()), x2, x3, x4, ())
def gaf_250r (x0 : Int) (x1 : List Y1) (x2 x3 : Int) : Option ((Int × List Y1 × Int × Int × Unit) ⊕ ((Int × Unit) ⊕ (Unit))) :=
 bif decide (x3 < x2) then
  (idx x1 x3).bind fun v1 =>
  (bif decide (v1.1 < 0) then some true else some (decide (v1.1 ≥ x0))).bind fun b1 =>
  (bif b1 then some true else some (decide (v1.2.1 < 0))).bind fun b2 =>
  (bif b2 then some true else some (decide (v1.2.1 ≥ x0))).bind fun b3 =>
  (bif b3 then some true else some (v1.1 == v1.2.1)).bind fun b4 =>
  bif b4 then
   some (.inr (.inl (4, ())))
  else
   (bif decide (v1.2.2.1 < 1) then some true else some (decide (v1.2.2.1 > 100000))).bind fun b5 =>
   (bif b5 then some true else some (decide (v1.2.2.2.1 < 1))).bind fun b6 =>
   (bif b6 then some true else some (decide (v1.2.2.2.1 > 1000))).bind fun b7 =>
   bif b7 then
    some (.inr (.inl (1, ())))
   else
    (gae v1.2.2.2.2.2.2.1 v1.2.2.2.2.2.2.2.1 1 262144).bind fun y0 =>
    (bif (!y0.1) then some true else ((gae v1.2.2.2.2.2.2.2.2.1 v1.2.2.2.2.2.2.2.2.2 (-2199023255552) 2199023255552).bind fun y1 => some (!y1.1))).bind fun b8 =>
    bif b8 then
     some (.inr (.inl (1, ())))
    else
     some (.inl (x0, x1, x2, (wrap .i64 (x3 + 1)), ()))
 else
  some (.inr (.inr ()))
def gaf_250F (x : (Int × List Y1 × Int × Int × Unit)) := gaf_250r x.1 x.2.1 x.2.2.1 x.2.2.2.1
def gaf_250 (x0 : Int) (x1 : List Y1) (x2 x3 : Int) := loopL gaf_250F (x0, x1, x2, x3, ())
def gaf (x0 : List (Int × Bool)) (x1 : List Y1) : Option (Int × Unit) :=
 (bif decide ((x0.length : Int) > 64) then some true else some (decide ((x1.length : Int) > 128))).bind fun b9 =>
 bif b9 then
  some (2, ())
 else
  (gaf_58 x0 x1 x0 (x0.length : Int) 0).bind fun z0 =>
  sumElim z0 (fun z1 =>
   some (z1.1, ()))
   (fun z2 =>
   (gaf_250 (z2.1.1.length : Int) z2.1.2.1 (z2.1.2.1.length : Int) 0).bind fun z3 =>
   sumElim z3 (fun z4 =>
    some (z4.1, ()))
    (fun z5 =>
    some (0, ())))
def gag_122r (x0 : Int) (x1 x2 : Bool) (x3 x4 : List (Int × Int)) (x5 x6 : Int) : Option (((Int × Bool × Bool × List (Int × Int) × Unit) × List (Int × Int) × Int × Int × Unit) ⊕ ((Int × Unit) ⊕ (Unit))) :=
 bif decide (x6 < x5) then
  (idx x4 x6).bind fun v0 =>
  (bif decide (v0.1 < (-1048576)) then some true else some (decide (v0.1 > 1048576))).bind fun b0 =>
  (bif b0 then some true else some (decide (v0.2 < 0))).bind fun b1 =>
  (bif b1 then some true else some (decide (v0.2 > 2199023255552))).bind fun b2 =>
  bif b2 then
   some (.inr (.inl (1, ())))
  else
   (bif decide (x6 > 0) then ((idx x3 (wrap .i64 (x6 - 1))).bind fun v1 => ((bif decide (v0.1 ≤ v1.1) then some true else ((idx x3 (wrap .i64 (x6 - 1))).bind fun v2 => some (decide (v0.2 > v2.2)))).bind fun b3 => some b3)) else some false).bind fun b4 =>
   bif b4 then
    some (.inr (.inl (14, ())))
   else
    some (.inl ((x0, x1, x2, x3, ()), x4, x5, (wrap .i64 (x6 + 1)), ()))
 else
  some (.inr (.inr ()))
def gag_122F (x : ((Int × Bool × Bool × List (Int × Int) × Unit) × List (Int × Int) × Int × Int × Unit)) := gag_122r x.1.1 x.1.2.1 x.1.2.2.1 x.1.2.2.2.1 x.2.1 x.2.2.1 x.2.2.2.1
def gag_122 (x0 : Int) (x1 x2 : Bool) (x3 x4 : List (Int × Int)) (x5 x6 : Int) := loopL gag_122F ((x0, x1, x2, x3, ()), x4, x5, x6, ())
def gag (x0 : Int) (x1 x2 : Bool) (x3 : List (Int × Int)) : Option (Int × Unit) :=
 bif decide (x0 < 0) then
  some (4, ())
 else
  (bif decide ((x3.length : Int) < 1) then some true else some (decide ((x3.length : Int) > 8))).bind fun b5 =>
  bif b5 then
   some (2, ())
  else
   (gag_122 x0 x1 x2 x3 x3 (x3.length : Int) 0).bind fun z0 =>
   sumElim z0 (fun z1 =>
    some (z1.1, ()))
    (fun z2 =>
    some (0, ()))
def gah_239226r (x0 : List Y13) (x1 x2 x3 : Int) (x4 : List Int) (x5 : Bool) (x6 : List Y13) (x7 x8 : Int) (x9 : List Int) (x10 x11 : Int) : Option ((List Y13 × Int × Y7 × Bool × List Y13 × Int × Int × List Int × Int × Int × Unit) ⊕ ((Int × Unit) ⊕ (List Y13 × Int × Y7 × Bool × List Y13 × Int × Int × Unit))) :=
 bif decide (x11 < x10) then
  (idx x9 x11).bind fun v0 =>
  (bif decide (v0 < 0) then some true else some (decide (v0 > 262144))).bind fun b0 =>
  bif b0 then
   some (.inr (.inl (1, ())))
  else
   (bif x5 then ((bif (x11 == 0) then some true else ((idx x4 (wrap .i64 (x11 - 1))).bind fun v1 => some (decide (v0 < v1)))).bind fun b1 => some b1) else some false).bind fun b2 =>
   some (.inl (x0, x1, (x2, x3, x4, ()), b2, x6, x7, x8, x9, x10, (wrap .i64 (x11 + 1)), ()))
 else
  some (.inr (.inr (x0, x1, (x2, x3, x4, ()), x5, x6, x7, x8, ())))
def gah_239226F (x : (List Y13 × Int × Y7 × Bool × List Y13 × Int × Int × List Int × Int × Int × Unit)) := gah_239226r x.1 x.2.1 x.2.2.1.1 x.2.2.1.2.1 x.2.2.1.2.2.1 x.2.2.2.1 x.2.2.2.2.1 x.2.2.2.2.2.1 x.2.2.2.2.2.2.1 x.2.2.2.2.2.2.2.1 x.2.2.2.2.2.2.2.2.1 x.2.2.2.2.2.2.2.2.2.1
def gah_239226 (x0 : List Y13) (x1 x2 x3 : Int) (x4 : List Int) (x5 : Bool) (x6 : List Y13) (x7 x8 : Int) (x9 : List Int) (x10 x11 : Int) := loopL gah_239226F (x0, x1, (x2, x3, x4, ()), x5, x6, x7, x8, x9, x10, x11, ())
def gah_58r (x0 x1 : List Y13) (x2 x3 : Int) : Option ((List Y13 × List Y13 × Int × Int × Unit) ⊕ ((Int × Unit) ⊕ (Unit))) :=
 bif decide (x3 < x2) then
  (idx x1 x3).bind fun v2 =>
  bif decide (v2.1 < 0) then
   some (.inr (.inl (4, ())))
  else
   (bif decide ((v2.2.2.length : Int) < 2) then some true else some (decide ((v2.2.2.length : Int) > 6))).bind fun b3 =>
   bif b3 then
    some (.inr (.inl (2, ())))
   else
    (gah_239226 x0 x3 v2.1 v2.2.1 v2.2.2 true x1 x2 x3 v2.2.2 (v2.2.2.length : Int) 0).bind fun z0 =>
    sumElim z0 (fun z1 =>
     some (.inr (.inl z1)))
     (fun z2 =>
     bif (!z2.2.2.2.1) then
      some (.inr (.inl (15, ())))
     else
      (bif (z2.2.2.1.2.1 != (-1)) then ((bif decide (z2.2.2.1.2.1 < 0) then some true else some (decide (z2.2.2.1.2.1 ≥ (z2.1.length : Int)))).bind fun b4 => ((bif b4 then some true else some (z2.2.2.1.2.1 == z2.2.1)).bind fun b5 => ((bif b5 then some true else ((idx z2.1 z2.2.2.1.2.1).bind fun v3 => some (v3.2.1 != z2.2.1))).bind fun b6 => some b6))) else some false).bind fun b7 =>
      bif b7 then
       some (.inr (.inl (15, ())))
      else
       some (.inl (z2.1, z2.2.2.2.2.1, z2.2.2.2.2.2.1, (wrap .i64 (z2.2.2.2.2.2.2.1 + 1)), ())))
 else
  some (.inr (.inr ()))
def gah_58F (x : (List Y13 × List Y13 × Int × Int × Unit)) := gah_58r x.1 x.2.1 x.2.2.1 x.2.2.2.1
def gah_58 (x0 x1 : List Y13) (x2 x3 : Int) := loopL gah_58F (x0, x1, x2, x3, ())
def gah (x0 : List Y13) : Option (Int × Unit) :=
 bif decide ((x0.length : Int) > 16) then
  some (2, ())
 else
  (gah_58 x0 x0 (x0.length : Int) 0).bind fun z3 =>
  sumElim z3 (fun z4 =>
   some (z4.1, ()))
   (fun z5 =>
   some (0, ()))
def gai_122r (x0 : List (Int × Bool)) (x1 : List Y1) (x2 : List (Int × Bool × Bool × List (Int × Int))) (x3 : List Y13) (x4 : List (Int × Bool × Bool × List (Int × Int))) (x5 x6 : Int) : Option (((List (Int × Bool) × List Y1 × List (Int × Bool × Bool × List (Int × Int)) × List Y13 × Unit) × List (Int × Bool × Bool × List (Int × Int)) × Int × Int × Unit) ⊕ ((Int × Unit) ⊕ ((List (Int × Bool) × List Y1 × List (Int × Bool × Bool × List (Int × Int)) × List Y13 × Unit) × Unit))) :=
 bif decide (x6 < x5) then
  (idx x4 x6).bind fun v0 =>
  (gag v0.1 v0.2.1 v0.2.2.1 v0.2.2.2).bind fun y0 =>
  bif (y0.1 != 0) then
   some (.inr (.inl (y0.1, ())))
  else
   bif decide (v0.1 ≥ (x1.length : Int)) then
    some (.inr (.inl (4, ())))
   else
    some (.inl ((x0, x1, x2, x3, ()), x4, x5, (wrap .i64 (x6 + 1)), ()))
 else
  some (.inr (.inr ((x0, x1, x2, x3, ()), ())))
def gai_122F (x : ((List (Int × Bool) × List Y1 × List (Int × Bool × Bool × List (Int × Int)) × List Y13 × Unit) × List (Int × Bool × Bool × List (Int × Int)) × Int × Int × Unit)) := gai_122r x.1.1 x.1.2.1 x.1.2.2.1 x.1.2.2.2.1 x.2.1 x.2.2.1 x.2.2.2.1
def gai_122 (x0 : List (Int × Bool)) (x1 : List Y1) (x2 : List (Int × Bool × Bool × List (Int × Int))) (x3 : List Y13) (x4 : List (Int × Bool × Bool × List (Int × Int))) (x5 x6 : Int) := loopL gai_122F ((x0, x1, x2, x3, ()), x4, x5, x6, ())
def gai_506r (x0 : List (Int × Bool)) (x1 : List Y1) (x2 : List (Int × Bool × Bool × List (Int × Int))) (x3 x4 : List Y13) (x5 x6 : Int) : Option (((List (Int × Bool) × List Y1 × List (Int × Bool × Bool × List (Int × Int)) × List Y13 × Unit) × List Y13 × Int × Int × Unit) ⊕ ((Int × Unit) ⊕ (Unit))) :=
 bif decide (x6 < x5) then
  (idx x4 x6).bind fun v1 =>
  bif decide (v1.1 ≥ (x1.length : Int)) then
   some (.inr (.inl (4, ())))
  else
   some (.inl ((x0, x1, x2, x3, ()), x4, x5, (wrap .i64 (x6 + 1)), ()))
 else
  some (.inr (.inr ()))
def gai_506F (x : ((List (Int × Bool) × List Y1 × List (Int × Bool × Bool × List (Int × Int)) × List Y13 × Unit) × List Y13 × Int × Int × Unit)) := gai_506r x.1.1 x.1.2.1 x.1.2.2.1 x.1.2.2.2.1 x.2.1 x.2.2.1 x.2.2.2.1
def gai_506 (x0 : List (Int × Bool)) (x1 : List Y1) (x2 : List (Int × Bool × Bool × List (Int × Int))) (x3 x4 : List Y13) (x5 x6 : Int) := loopL gai_506F ((x0, x1, x2, x3, ()), x4, x5, x6, ())
def gai (x0 : List (Int × Bool)) (x1 : List Y1) (x2 : List (Int × Bool × Bool × List (Int × Int))) (x3 : List Y13) : Option (Int × Unit) :=
 (gaf x0 x1).bind fun y1 =>
 bif (y1.1 != 0) then
  some (y1.1, ())
 else
  bif decide ((x2.length : Int) > 8) then
   some (2, ())
  else
   (gai_122 x0 x1 x2 x3 x2 (x2.length : Int) 0).bind fun z0 =>
   sumElim z0 (fun z1 =>
    some (z1.1, ()))
    (fun z2 =>
    (gah z2.1.2.2.2.1).bind fun y2 =>
    bif (y2.1 != 0) then
     some (y2.1, ())
    else
     (gai_506 z2.1.1 z2.1.2.1 z2.1.2.2.1 z2.1.2.2.2.1 z2.1.2.2.2.1 (z2.1.2.2.2.1.length : Int) 0).bind fun z3 =>
     sumElim z3 (fun z4 =>
      some (z4.1, ()))
      (fun z5 =>
      some (0, ())))
def gaj_26r (x0 x1 : Int) (x2 : List Int) (x3 x4 : Int) : Option ((Int × Int × List Int × Int × Int × Unit) ⊕ ((Bool × Unit) ⊕ (Unit))) :=
 bif decide (x4 < x3) then
  (idx x2 x4).bind fun v0 =>
  (bif decide (v0 < x0) then some true else some (decide (v0 > x1))).bind fun b0 =>
  bif b0 then
   some (.inr (.inl (false, ())))
  else
   some (.inl (x0, x1, x2, x3, (wrap .i64 (x4 + 1)), ()))
 else
  some (.inr (.inr ()))
def gaj_26F (x : (Int × Int × List Int × Int × Int × Unit)) := gaj_26r x.1 x.2.1 x.2.2.1 x.2.2.2.1 x.2.2.2.2.1
def gaj_26 (x0 x1 : Int) (x2 : List Int) (x3 x4 : Int) := loopL gaj_26F (x0, x1, x2, x3, x4, ())
def gaj (x0 x1 : Int) (x2 : List Int) : Option (Bool × Unit) :=
 (gaj_26 x0 x1 x2 (x2.length : Int) 0).bind fun z0 =>
 sumElim z0 (fun z1 =>
  some (z1.1, ()))
  (fun z2 =>
  some (true, ()))
def gak (x0 x1 x2 x3 x4 x5 x6 x7 : Int) : Option (Int × Unit) :=
 (gaj 1 6 ([x1] : List Int)).bind fun y0 =>
 bif (!y0.1) then
  some (5, ())
 else
  (gaj 0 255 ([x0] : List Int)).bind fun y1 =>
  (bif (!y1.1) then some true else some (decide (x2 < 0))).bind fun b0 =>
  (bif b0 then some true else ((gaj (-1000000) 1000000 ([x3, x4] : List Int)).bind fun y2 => some (!y2.1))).bind fun b1 =>
  bif b1 then
   some (1, ())
  else
   (gaj 0 1000000 ([x5, x6] : List Int)).bind fun y3 =>
   (bif (!y3.1) then some true else ((gaj 1 1000000 ([x7] : List Int)).bind fun y4 => some (!y4.1))).bind fun b2 =>
   bif b2 then
    some (1, ())
   else
    some (0, ())
def gal (x0 x1 : Int) : Option (Bool × Unit) :=
 (bif decide (x0 ≥ 0) then some (decide (x0 < x1)) else some false).bind fun b0 =>
 some (b0, ())
def gam_108158r (x0 : List (Int × Bool)) (x1 : List Y1) (x2 : List (Int × Bool × Bool × List (Int × Int))) (x3 : List Y13) (x4 : List Y3) (x5 : List Y5) (x6 : List Y21) (x7 : List Int) (x8 x9 x10 x11 x12 x13 x14 x15 : Int) (x16 : List Y3) (x17 x18 : Int) (x19 : List Y3) (x20 x21 : Int) : Option (((List (Int × Bool) × List Y1 × List (Int × Bool × Bool × List (Int × Int)) × List Y13 × List Y3 × List Y5 × List Y21 × List Int × Unit) × Y2 × List Y3 × Int × Int × List Y3 × Int × Int × Unit) ⊕ ((Int × Unit) ⊕ ((List (Int × Bool) × List Y1 × List (Int × Bool × Bool × List (Int × Int)) × List Y13 × List Y3 × List Y5 × List Y21 × List Int × Unit) × List Y3 × Int × Int × Unit))) :=
 bif decide (x21 < x20) then
  (idx x19 x21).bind fun v0 =>
  bif (v0.1 == x8) then
   some (.inr (.inl (9, ())))
  else
   some (.inl ((x0, x1, x2, x3, x4, x5, x6, x7, ()), (x8, x9, x10, x11, x12, x13, x14, x15, ()), x16, x17, x18, x19, x20, (wrap .i64 (x21 + 1)), ()))
 else
  some (.inr (.inr ((x0, x1, x2, x3, x4, x5, x6, x7, ()), x16, x17, x18, ())))
def gam_108158F (x : ((List (Int × Bool) × List Y1 × List (Int × Bool × Bool × List (Int × Int)) × List Y13 × List Y3 × List Y5 × List Y21 × List Int × Unit) × Y2 × List Y3 × Int × Int × List Y3 × Int × Int × Unit)) := gam_108158r x.1.1 x.1.2.1 x.1.2.2.1 x.1.2.2.2.1 x.1.2.2.2.2.1 x.1.2.2.2.2.2.1 x.1.2.2.2.2.2.2.1 x.1.2.2.2.2.2.2.2.1 x.2.1.1 x.2.1.2.1 x.2.1.2.2.1 x.2.1.2.2.2.1 x.2.1.2.2.2.2.1 x.2.1.2.2.2.2.2.1 x.2.1.2.2.2.2.2.2.1 x.2.1.2.2.2.2.2.2.2.1 x.2.2.1 x.2.2.2.1 x.2.2.2.2.1 x.2.2.2.2.2.1 x.2.2.2.2.2.2.1 x.2.2.2.2.2.2.2.1
def gam_108158 (x0 : List (Int × Bool)) (x1 : List Y1) (x2 : List (Int × Bool × Bool × List (Int × Int))) (x3 : List Y13) (x4 : List Y3) (x5 : List Y5) (x6 : List Y21) (x7 : List Int) (x8 x9 x10 x11 x12 x13 x14 x15 : Int) (x16 : List Y3) (x17 x18 : Int) (x19 : List Y3) (x20 x21 : Int) := loopL gam_108158F ((x0, x1, x2, x3, x4, x5, x6, x7, ()), (x8, x9, x10, x11, x12, x13, x14, x15, ()), x16, x17, x18, x19, x20, x21, ())
def gam_13519 (x0 : List (Int × Bool)) (x1 : List Y1) (x2 : List (Int × Bool × Bool × List (Int × Int))) (x3 : List Y13) (x4 : List Y3) (x5 : List Y5) (x6 : List Y21) (x7 : List Int) (x8 x9 x10 x11 x12 x13 x14 x15 x16 x17 : Int) (x18 : List Y3) (x19 x20 : Int) : Option ((Int × Unit) ⊕ ((List (Int × Bool) × List Y1 × List (Int × Bool × Bool × List (Int × Int)) × List Y13 × List Y3 × List Y5 × List Y21 × List Int × Unit) × List Y3 × Int × Int × Unit)) :=
 (gal x11 x17).bind fun y0 =>
 bif (!y0.1) then
  some (.inl (9, ()))
 else
  bif (decide (0 ≤ x8) && decide (x8 ≤ (x4.length : Int))) then
  (gam_108158 x0 x1 x2 x3 x4 x5 x6 x7 x9 x10 x11 x12 x13 x14 x15 x16 x18 x19 x20 ((x4).take x8.toNat) (((x4).take x8.toNat).length : Int) 0).bind fun z0 =>
  sumElim z0 (fun z1 =>
   some (.inl z1))
   (fun z2 =>
   some (.inr z2))
  else none
def gam_26r (x0 : List (Int × Bool)) (x1 : List Y1) (x2 : List (Int × Bool × Bool × List (Int × Int))) (x3 : List Y13) (x4 : List Y3) (x5 : List Y5) (x6 : List Y21) (x7 : List Int) (x8 : List Y3) (x9 x10 : Int) : Option (((List (Int × Bool) × List Y1 × List (Int × Bool × Bool × List (Int × Int)) × List Y13 × List Y3 × List Y5 × List Y21 × List Int × Unit) × List Y3 × Int × Int × Unit) ⊕ ((Int × Unit) ⊕ (Unit))) :=
 bif decide (x10 < x9) then
  (idx x8 x10).bind fun v1 =>
  (gak v1.1 v1.2.1 v1.2.2.1 v1.2.2.2.1 v1.2.2.2.2.1 v1.2.2.2.2.2.1 v1.2.2.2.2.2.2.1 v1.2.2.2.2.2.2.2).bind fun y1 =>
  bif (y1.1 != 0) then
   some (.inr (.inl (y1.1, ())))
  else
   bif (v1.2.1 == 5) then
    (gam_13519 x0 x1 x2 x3 x4 x5 x6 x7 x10 v1.1 v1.2.1 v1.2.2.1 v1.2.2.2.1 v1.2.2.2.2.1 v1.2.2.2.2.2.1 v1.2.2.2.2.2.2.1 v1.2.2.2.2.2.2.2 (x2.length : Int) x8 x9 x10).bind fun z3 =>
    sumElim z3 (fun z4 =>
     some (.inr (.inl z4)))
     (fun z5 =>
     some (.inl (z5.1, z5.2.1, z5.2.2.1, (wrap .i64 (z5.2.2.2.1 + 1)), ())))
   else
    bif (v1.2.1 == 6) then
     (gam_13519 x0 x1 x2 x3 x4 x5 x6 x7 x10 v1.1 v1.2.1 v1.2.2.1 v1.2.2.2.1 v1.2.2.2.2.1 v1.2.2.2.2.2.1 v1.2.2.2.2.2.2.1 v1.2.2.2.2.2.2.2 (x3.length : Int) x8 x9 x10).bind fun z6 =>
     sumElim z6 (fun z7 =>
      some (.inr (.inl z7)))
      (fun z8 =>
      some (.inl (z8.1, z8.2.1, z8.2.2.1, (wrap .i64 (z8.2.2.2.1 + 1)), ())))
    else
     (gam_13519 x0 x1 x2 x3 x4 x5 x6 x7 x10 v1.1 v1.2.1 v1.2.2.1 v1.2.2.2.1 v1.2.2.2.2.1 v1.2.2.2.2.2.1 v1.2.2.2.2.2.2.1 v1.2.2.2.2.2.2.2 (x1.length : Int) x8 x9 x10).bind fun z9 =>
     sumElim z9 (fun z10 =>
      some (.inr (.inl z10)))
      (fun z11 =>
      some (.inl (z11.1, z11.2.1, z11.2.2.1, (wrap .i64 (z11.2.2.2.1 + 1)), ())))
 else
  some (.inr (.inr ()))
def gam_26F (x : ((List (Int × Bool) × List Y1 × List (Int × Bool × Bool × List (Int × Int)) × List Y13 × List Y3 × List Y5 × List Y21 × List Int × Unit) × List Y3 × Int × Int × Unit)) := gam_26r x.1.1 x.1.2.1 x.1.2.2.1 x.1.2.2.2.1 x.1.2.2.2.2.1 x.1.2.2.2.2.2.1 x.1.2.2.2.2.2.2.1 x.1.2.2.2.2.2.2.2.1 x.2.1 x.2.2.1 x.2.2.2.1
def gam_26 (x0 : List (Int × Bool)) (x1 : List Y1) (x2 : List (Int × Bool × Bool × List (Int × Int))) (x3 : List Y13) (x4 : List Y3) (x5 : List Y5) (x6 : List Y21) (x7 : List Int) (x8 : List Y3) (x9 x10 : Int) := loopL gam_26F ((x0, x1, x2, x3, x4, x5, x6, x7, ()), x8, x9, x10, ())
def gam (x0 : List (Int × Bool)) (x1 : List Y1) (x2 : List (Int × Bool × Bool × List (Int × Int))) (x3 : List Y13) (x4 : List Y3) (x5 : List Y5) (x6 : List Y21) (x7 : List Int) : Option (Int × Unit) :=
 (gam_26 x0 x1 x2 x3 x4 x5 x6 x7 x4 (x4.length : Int) 0).bind fun z12 =>
 sumElim z12 (fun z13 =>
  some (z13.1, ()))
  (fun z14 =>
  some (0, ()))
def gan (x0 x1 x2 : Int) : Option (Int × Unit) :=
 (bif decide (x0 > 1000000) then some true else some (decide (x1 < 0))).bind fun b0 =>
 (bif b0 then some true else some (decide (x1 ≥ x0))).bind fun b1 =>
 (bif b1 then some true else some (decide (x2 < 0))).bind fun b2 =>
 (bif b2 then some true else some (decide (x2 > 100000))).bind fun b3 =>
 bif b3 then
  some (1, ())
 else
  some (0, ())
def gao_53 (x0 : List (Int × Bool)) (x1 : List Y1) (x2 : List (Int × Bool × Bool × List (Int × Int))) (x3 : List Y13) (x4 : List Y3) (x5 : List Y5) (x6 : List Y21) (x7 : List Int) (x8 x9 x10 x11 x12 x13 x14 : Int) (x15 : Bool) : Option ((Int × Unit) ⊕ (Y4 × Unit)) :=
 bif x15 then
  (gal x9 (x4.length : Int)).bind fun y0 =>
  bif (!y0.1) then
   some (.inl (9, ()))
  else
   some (.inr ((x8, x9, x10, x11, x12, x13, ()), ()))
 else
  bif (x14 == 3) then
   (gal x9 (x4.length : Int)).bind fun y1 =>
   (bif (!y1.1) then some true else ((idx x4 x9).bind fun v0 => some (v0.2.1 != 5))).bind fun b0 =>
   bif b0 then
    some (.inl (9, ()))
   else
    some (.inr ((x8, x9, x10, x11, x12, x13, ()), ()))
  else
   bif (x14 == 5) then
    (gal x9 (x1.length : Int)).bind fun y2 =>
    bif (!y2.1) then
     some (.inl (4, ()))
    else
     some (.inr ((x8, x9, x10, x11, x12, x13, ()), ()))
   else
    some (.inl (5, ()))
def gao_7 (x0 x1 x2 x3 x4 x5 : Int) : Option (Int × Unit) :=
 (bif decide (x2 < 0) then some true else some (decide (x2 > 1099511627776))).bind fun b1 =>
 bif b1 then
  some (1, ())
 else
  bif (x0 == 1) then
   (gan x3 x4 x5).bind fun y3 =>
   some (y3.1, ())
  else
   some (0, ())
def gao (x0 : List (Int × Bool)) (x1 : List Y1) (x2 : List (Int × Bool × Bool × List (Int × Int))) (x3 : List Y13) (x4 : List Y3) (x5 : List Y5) (x6 : List Y21) (x7 : List Int) (x8 x9 x10 x11 x12 x13 : Int) : Option (Int × Unit) :=
 bif (x8 == 1) then
  (gao_53 x0 x1 x2 x3 x4 x5 x6 x7 x8 x9 x10 x11 x12 x13 x8 (x8 == 1)).bind fun z0 =>
  sumElim z0 (fun z1 =>
   some (z1.1, ()))
   (fun z2 =>
   (gao_7 z2.1.1 z2.1.2.1 z2.1.2.2.1 z2.1.2.2.2.1 z2.1.2.2.2.2.1 z2.1.2.2.2.2.2.1).bind fun z3 =>
   some (z3.1, ()))
 else
  bif (x8 == 2) then
   (gao_53 x0 x1 x2 x3 x4 x5 x6 x7 x8 x9 x10 x11 x12 x13 x8 (x8 == 2)).bind fun z4 =>
   sumElim z4 (fun z5 =>
    some (z5.1, ()))
    (fun z6 =>
    (gao_7 z6.1.1 z6.1.2.1 z6.1.2.2.1 z6.1.2.2.2.1 z6.1.2.2.2.2.1 z6.1.2.2.2.2.2.1).bind fun z7 =>
    some (z7.1, ()))
  else
   (gao_53 x0 x1 x2 x3 x4 x5 x6 x7 x8 x9 x10 x11 x12 x13 x8 (x8 == 4)).bind fun z8 =>
   sumElim z8 (fun z9 =>
    some (z9.1, ()))
    (fun z10 =>
    (gao_7 z10.1.1 z10.1.2.1 z10.1.2.2.1 z10.1.2.2.2.1 z10.1.2.2.2.2.1 z10.1.2.2.2.2.2.1).bind fun z11 =>
    some (z11.1, ()))
def gap_3935 (rec : Y25 → Option (Y9 × Unit)) (x0 : List Y12) (x1 x2 x3 x4 x5 : Int) (x6 : Bool) : Option (Y9 ⊕ (Unit)) :=
 bif x6 then
  (rec (x0, (wrap .i64 (x1 - 1)), ())).bind fun y0 =>
  (bif (!y0.1.2.2.1) then some true else some (x3 != 0)).bind fun b0 =>
  (bif b0 then some true else some (x5 != (wrap .i64 (x1 - 1)))).bind fun b1 =>
  (bif b1 then some true else some (x4 != (wrap .i64 (y0.1.1 - 1)))).bind fun b2 =>
  bif b2 then
   some (.inl (0, 0, false, ()))
  else
   (rec (x0, (wrap .i64 (y0.1.1 - 1)), ())).bind fun y1 =>
   some (.inl (y1.1.1, (wrap .i64 ((bif decide (y0.1.2.1 > y1.1.2.1) then y0.1.2.1 else y1.1.2.1) + 1)), y1.1.2.2.1, ()))
 else
  some (.inr ())
def gapb (rec : Y25 → Option (Y9 × Unit)) (x0 : List Y12) (x1 : Int) : Option (Y9 × Unit) :=
 bif decide (x1 < 0) then
  some ((0, 0, false, ()), ())
 else
  (idx x0 x1).bind fun v0 =>
  bif (v0.1 == 1) then
   (bif (v0.2.2.1 == 0) then some (v0.2.2.2 == 0) else some false).bind fun b3 =>
   (bif b3 then some (decide (v0.2.1 ≥ 0)) else some false).bind fun b4 =>
   (bif b4 then some (decide (v0.2.1 < 64)) else some false).bind fun b5 =>
   some ((x1, 1, b5, ()), ())
  else
   bif (v0.1 == 2) then
    (rec (x0, (wrap .i64 (x1 - 1)), ())).bind fun y2 =>
    (bif y2.1.2.2.1 then some (v0.2.1 == 0) else some false).bind fun b6 =>
    (bif b6 then some (v0.2.2.2 == 0) else some false).bind fun b7 =>
    (bif b7 then some (v0.2.2.1 == (wrap .i64 (x1 - 1))) else some false).bind fun b8 =>
    some ((y2.1.1, (wrap .i64 (y2.1.2.1 + 1)), b8, ()), ())
   else
    bif (v0.1 == 3) then
     (gap_3935 rec x0 x1 v0.1 v0.2.1 v0.2.2.1 v0.2.2.2 (v0.1 == 3)).bind fun z0 =>
     sumElim z0 (fun z1 =>
      some (z1, ()))
      (fun z2 =>
      some ((0, 0, false, ()), ()))
    else
     (gap_3935 rec x0 x1 v0.1 v0.2.1 v0.2.2.1 v0.2.2.2 (v0.1 == 4)).bind fun z3 =>
     sumElim z3 (fun z4 =>
      some (z4, ()))
      (fun z5 =>
      some ((0, 0, false, ()), ()))
def gapi : Nat → Y25 → Option (Y9 × Unit)
 | 0 => fun _ => none
 | n + 1 => fun x => gapb (gapi n) x.1 x.2.1
def gap (x0 : List Y12) (x1 : Int) : Option (Y9 × Unit) := gapi 1000000 (x0, x1, ())
def gaq (x0 : List Y12) : Option (Bool × Unit) :=
 (bif decide ((x0.length : Int) < 1) then some true else some (decide ((x0.length : Int) > 64))).bind fun b0 =>
 bif b0 then
  some (false, ())
 else
  (gap x0 (wrap .i64 ((x0.length : Int) - 1))).bind fun y0 =>
  (bif y0.1.2.2.1 then some (y0.1.1 == 0) else some false).bind fun b1 =>
  (bif b1 then some (decide (y0.1.2.1 ≤ 16)) else some false).bind fun b2 =>
  some (b2, ())
def gar_58r (x0 : Int) (x1 : List Y12) (x2 x3 : Int) : Option ((Int × List Y12 × Int × Int × Unit) ⊕ ((Int × Unit) ⊕ (Unit))) :=
 bif decide (x3 < x2) then
  (idx x1 x3).bind fun v0 =>
  (bif (v0.1 == 1) then some (decide (v0.2.1 ≥ x0)) else some false).bind fun b0 =>
  bif b0 then
   some (.inr (.inl (1, ())))
  else
   some (.inl (x0, x1, x2, (wrap .i64 (x3 + 1)), ()))
 else
  some (.inr (.inr ()))
def gar_58F (x : (Int × List Y12 × Int × Int × Unit)) := gar_58r x.1 x.2.1 x.2.2.1 x.2.2.2.1
def gar_58 (x0 : Int) (x1 : List Y12) (x2 x3 : Int) := loopL gar_58F (x0, x1, x2, x3, ())
def gar (x0 : List Y12) (x1 : Int) : Option (Int × Unit) :=
 (gaq x0).bind fun y0 =>
 bif (!y0.1) then
  some (18, ())
 else
  (gar_58 x1 x0 (x0.length : Int) 0).bind fun z0 =>
  sumElim z0 (fun z1 =>
   some (z1.1, ()))
   (fun z2 =>
   some (0, ()))
def gas_122r (x0 : List (Int × Bool)) (x1 : List Y1) (x2 : List (Int × Bool × Bool × List (Int × Int))) (x3 : List Y13) (x4 : List Y3) (x5 : List Y5) (x6 : List Y21) (x7 : List Int) (x8 : List Y12) (x9 : Int) (x10 : List Int) (x11 : Int) (x12 : List Int) (x13 x14 : Int) : Option (((List (Int × Bool) × List Y1 × List (Int × Bool × Bool × List (Int × Int)) × List Y13 × List Y3 × List Y5 × List Y21 × List Int × Unit) × Y17 × List Int × Int × Int × Unit) ⊕ ((Int × Unit) ⊕ (Unit))) :=
 bif decide (x14 < x13) then
  (idx x12 x14).bind fun v0 =>
  (gal v0 (x1.length : Int)).bind fun y0 =>
  (bif (!y0.1) then some true else ((bif decide (x14 > 0) then ((idx x10 (wrap .i64 (x14 - 1))).bind fun v1 => some (decide (v0 ≤ v1))) else some false).bind fun b0 => some b0)).bind fun b1 =>
  bif b1 then
   some (.inr (.inl (4, ())))
  else
   some (.inl ((x0, x1, x2, x3, x4, x5, x6, x7, ()), (x8, x9, x10, x11, ()), x12, x13, (wrap .i64 (x14 + 1)), ()))
 else
  some (.inr (.inr ()))
def gas_122F (x : ((List (Int × Bool) × List Y1 × List (Int × Bool × Bool × List (Int × Int)) × List Y13 × List Y3 × List Y5 × List Y21 × List Int × Unit) × Y17 × List Int × Int × Int × Unit)) := gas_122r x.1.1 x.1.2.1 x.1.2.2.1 x.1.2.2.2.1 x.1.2.2.2.2.1 x.1.2.2.2.2.2.1 x.1.2.2.2.2.2.2.1 x.1.2.2.2.2.2.2.2.1 x.2.1.1 x.2.1.2.1 x.2.1.2.2.1 x.2.1.2.2.2.1 x.2.2.1 x.2.2.2.1 x.2.2.2.2.1
def gas_122 (x0 : List (Int × Bool)) (x1 : List Y1) (x2 : List (Int × Bool × Bool × List (Int × Int))) (x3 : List Y13) (x4 : List Y3) (x5 : List Y5) (x6 : List Y21) (x7 : List Int) (x8 : List Y12) (x9 : Int) (x10 : List Int) (x11 : Int) (x12 : List Int) (x13 x14 : Int) := loopL gas_122F ((x0, x1, x2, x3, x4, x5, x6, x7, ()), (x8, x9, x10, x11, ()), x12, x13, x14, ())
def gas (x0 : List (Int × Bool)) (x1 : List Y1) (x2 : List (Int × Bool × Bool × List (Int × Int))) (x3 : List Y13) (x4 : List Y3) (x5 : List Y5) (x6 : List Y21) (x7 : List Int) (x8 : List Y12) (x9 : Int) (x10 : List Int) (x11 : Int) : Option (Int × Unit) :=
 (gar x8 (x5.length : Int)).bind fun y1 =>
 bif (y1.1 != 0) then
  some (y1.1, ())
 else
  (bif decide (x9 < 0) then some true else some (decide (x9 > 100000))).bind fun b2 =>
  (bif b2 then some true else some (decide (x11 < 0))).bind fun b3 =>
  (bif b3 then some true else some (decide (x11 > 100))).bind fun b4 =>
  bif b4 then
   some (1, ())
  else
   (gas_122 x0 x1 x2 x3 x4 x5 x6 x7 x8 x9 x10 x11 x10 (x10.length : Int) 0).bind fun z0 =>
   sumElim z0 (fun z1 =>
    some (z1.1, ()))
    (fun z2 =>
    some (0, ()))
def gat_250r (x0 : List (Int × Bool)) (x1 : List Y1) (x2 : List (Int × Bool × Bool × List (Int × Int))) (x3 : List Y13) (x4 : List Y3) (x5 : List Y5) (x6 : List Y21) (x7 : List Int) (x8 : List Y5) (x9 x10 : Int) : Option (((List (Int × Bool) × List Y1 × List (Int × Bool × Bool × List (Int × Int)) × List Y13 × List Y3 × List Y5 × List Y21 × List Int × Unit) × List Y5 × Int × Int × Unit) ⊕ ((Int × Unit) ⊕ ((List (Int × Bool) × List Y1 × List (Int × Bool × Bool × List (Int × Int)) × List Y13 × List Y3 × List Y5 × List Y21 × List Int × Unit) × Unit))) :=
 bif decide (x10 < x9) then
  (idx x8 x10).bind fun v0 =>
  (gao x0 x1 x2 x3 x4 x5 x6 x7 v0.1 v0.2.1 v0.2.2.1 v0.2.2.2.1 v0.2.2.2.2.1 v0.2.2.2.2.2).bind fun y0 =>
  bif (y0.1 != 0) then
   some (.inr (.inl (y0.1, ())))
  else
   some (.inl ((x0, x1, x2, x3, x4, x5, x6, x7, ()), x8, x9, (wrap .i64 (x10 + 1)), ()))
 else
  some (.inr (.inr ((x0, x1, x2, x3, x4, x5, x6, x7, ()), ())))
def gat_250F (x : ((List (Int × Bool) × List Y1 × List (Int × Bool × Bool × List (Int × Int)) × List Y13 × List Y3 × List Y5 × List Y21 × List Int × Unit) × List Y5 × Int × Int × Unit)) := gat_250r x.1.1 x.1.2.1 x.1.2.2.1 x.1.2.2.2.1 x.1.2.2.2.2.1 x.1.2.2.2.2.2.1 x.1.2.2.2.2.2.2.1 x.1.2.2.2.2.2.2.2.1 x.2.1 x.2.2.1 x.2.2.2.1
def gat_250 (x0 : List (Int × Bool)) (x1 : List Y1) (x2 : List (Int × Bool × Bool × List (Int × Int))) (x3 : List Y13) (x4 : List Y3) (x5 : List Y5) (x6 : List Y21) (x7 : List Int) (x8 : List Y5) (x9 x10 : Int) := loopL gat_250F ((x0, x1, x2, x3, x4, x5, x6, x7, ()), x8, x9, x10, ())
def gat_506r (x0 : List (Int × Bool)) (x1 : List Y1) (x2 : List (Int × Bool × Bool × List (Int × Int))) (x3 : List Y13) (x4 : List Y3) (x5 : List Y5) (x6 : List Y21) (x7 : List Int) (x8 : List Y21) (x9 x10 : Int) : Option (((List (Int × Bool) × List Y1 × List (Int × Bool × Bool × List (Int × Int)) × List Y13 × List Y3 × List Y5 × List Y21 × List Int × Unit) × List Y21 × Int × Int × Unit) ⊕ ((Int × Unit) ⊕ ((List (Int × Bool) × List Y1 × List (Int × Bool × Bool × List (Int × Int)) × List Y13 × List Y3 × List Y5 × List Y21 × List Int × Unit) × Unit))) :=
 bif decide (x10 < x9) then
  (idx x8 x10).bind fun v1 =>
  (gas x0 x1 x2 x3 x4 x5 x6 x7 v1.1 v1.2.1 v1.2.2.1 v1.2.2.2).bind fun y1 =>
  bif (y1.1 != 0) then
   some (.inr (.inl (y1.1, ())))
  else
   some (.inl ((x0, x1, x2, x3, x4, x5, x6, x7, ()), x8, x9, (wrap .i64 (x10 + 1)), ()))
 else
  some (.inr (.inr ((x0, x1, x2, x3, x4, x5, x6, x7, ()), ())))
def gat_506F (x : ((List (Int × Bool) × List Y1 × List (Int × Bool × Bool × List (Int × Int)) × List Y13 × List Y3 × List Y5 × List Y21 × List Int × Unit) × List Y21 × Int × Int × Unit)) := gat_506r x.1.1 x.1.2.1 x.1.2.2.1 x.1.2.2.2.1 x.1.2.2.2.2.1 x.1.2.2.2.2.2.1 x.1.2.2.2.2.2.2.1 x.1.2.2.2.2.2.2.2.1 x.2.1 x.2.2.1 x.2.2.2.1
def gat_506 (x0 : List (Int × Bool)) (x1 : List Y1) (x2 : List (Int × Bool × Bool × List (Int × Int))) (x3 : List Y13) (x4 : List Y3) (x5 : List Y5) (x6 : List Y21) (x7 : List Int) (x8 : List Y21) (x9 x10 : Int) := loopL gat_506F ((x0, x1, x2, x3, x4, x5, x6, x7, ()), x8, x9, x10, ())
def gat_1018r (x0 : List Int) (x1 x2 : Int) : Option ((List Int × Int × Int × Unit) ⊕ ((Int × Unit) ⊕ (Unit))) :=
 bif decide (x2 < x1) then
  (idx x0 x2).bind fun v2 =>
  (bif decide (v2 < 1) then some true else some (decide (v2 > 3))).bind fun b0 =>
  bif b0 then
   some (.inr (.inl (19, ())))
  else
   some (.inl (x0, x1, (wrap .i64 (x2 + 1)), ()))
 else
  some (.inr (.inr ()))
def gat_1018F (x : (List Int × Int × Int × Unit)) := gat_1018r x.1 x.2.1 x.2.2.1
def gat_1018 (x0 : List Int) (x1 x2 : Int) := loopL gat_1018F (x0, x1, x2, ())
def gat (x0 : List (Int × Bool)) (x1 : List Y1) (x2 : List (Int × Bool × Bool × List (Int × Int))) (x3 : List Y13) (x4 : List Y3) (x5 : List Y5) (x6 : List Y21) (x7 : List Int) : Option (Int × Unit) :=
 (gai x0 x1 x2 x3).bind fun y2 =>
 bif (y2.1 != 0) then
  some (y2.1, ())
 else
  (bif decide ((x4.length : Int) > 64) then some true else some (decide ((x5.length : Int) > 64))).bind fun b1 =>
  (bif b1 then some true else some (decide ((x6.length : Int) > 16))).bind fun b2 =>
  (bif b2 then some true else some (decide ((x7.length : Int) > 64))).bind fun b3 =>
  bif b3 then
   some (2, ())
  else
   (gam x0 x1 x2 x3 x4 x5 x6 x7).bind fun y3 =>
   bif (y3.1 != 0) then
    some (y3.1, ())
   else
    (gat_250 x0 x1 x2 x3 x4 x5 x6 x7 x5 (x5.length : Int) 0).bind fun z0 =>
    sumElim z0 (fun z1 =>
     some (z1.1, ()))
     (fun z2 =>
     (gat_506 z2.1.1 z2.1.2.1 z2.1.2.2.1 z2.1.2.2.2.1 z2.1.2.2.2.2.1 z2.1.2.2.2.2.2.1 z2.1.2.2.2.2.2.2.1 z2.1.2.2.2.2.2.2.2.1 z2.1.2.2.2.2.2.2.1 (z2.1.2.2.2.2.2.2.1.length : Int) 0).bind fun z3 =>
     sumElim z3 (fun z4 =>
      some (z4.1, ()))
      (fun z5 =>
      (gat_1018 z5.1.2.2.2.2.2.2.2.1 (z5.1.2.2.2.2.2.2.2.1.length : Int) 0).bind fun z6 =>
      sumElim z6 (fun z7 =>
       some (z7.1, ()))
       (fun z8 =>
       some (0, ()))))
def gau : Option (Y14 × Unit) :=
 some (((-1125899906842624), 1125899906842624, ()), ())
def gav (x0 : Int) : Option (Bool × Unit) :=
 (bif (x0 == 4) then some true else some (x0 == 5)).bind fun b0 =>
 (bif b0 then some true else some (x0 == 6)).bind fun b1 =>
 some (b1, ())
def gaw (x0 x1 x2 x3 x4 x5 x6 x7 x8 x9 x10 x11 x12 : Int) : Option (Y14 × Unit) :=
 (gau).bind fun y0 =>
 (gak x0 x1 x2 x3 x4 x5 x6 x7).bind fun y1 =>
 (bif (y1.1 != 0) then some true else some (decide (x8 < 0))).bind fun b0 =>
 (bif b0 then some true else some ((x10 == y0.1.1) && ((x11 == y0.1.2.1) && true))).bind fun b1 =>
 (bif b1 then some true else some (decide (x12 < x9))).bind fun b2 =>
 (bif b2 then some true else some (decide ((wrap .i64 (x12 - x9)) > x7))).bind fun b3 =>
 bif b3 then
  some (y0.1, ())
 else
  (gav x1).bind fun y2 =>
  bif y2.1 then
   some ((x10, x11, ()), ())
  else
   (bif (x1 == 1) then some true else some (x1 == 2)).bind fun b4 =>
   bif b4 then
    some (((bif decide (0 > (wrap .i64 (x10 - (wrap .i64 (Int.tdiv (wrap .i64 ((wrap .i64 (x6 * (wrap .i64 (x12 - x9)))) + 999)) 1000))))) then 0 else (wrap .i64 (x10 - (wrap .i64 (Int.tdiv (wrap .i64 ((wrap .i64 (x6 * (wrap .i64 (x12 - x9)))) + 999)) 1000))))), (bif decide (0 > (wrap .i64 (x11 + (wrap .i64 (Int.tdiv (wrap .i64 ((wrap .i64 (x6 * (wrap .i64 (x12 - x9)))) + 999)) 1000))))) then 0 else (wrap .i64 (x11 + (wrap .i64 (Int.tdiv (wrap .i64 ((wrap .i64 (x6 * (wrap .i64 (x12 - x9)))) + 999)) 1000))))), ()), ())
   else
    some (((wrap .i64 (x10 - (wrap .i64 (Int.tdiv (wrap .i64 ((wrap .i64 (x6 * (wrap .i64 (x12 - x9)))) + 999)) 1000)))), (wrap .i64 (x11 + (wrap .i64 (Int.tdiv (wrap .i64 ((wrap .i64 (x6 * (wrap .i64 (x12 - x9)))) + 999)) 1000)))), ()), ())
def gax (x0 : List (Int × Bool)) (x1 : List Y1) (x2 : List (Int × Bool × Bool × List (Int × Int))) (x3 : List Y13) (x4 : List Y3) (x5 : List Y5) (x6 : List Y21) (x7 : List Int) (x8 : List Y12) (x9 x10 : Int) : Option (Y14 × Unit) :=
 (gal x9 (x4.length : Int)).bind fun y0 =>
 (bif (!y0.1) then some true else some (decide (x9 ≥ (x8.length : Int)))).bind fun b0 =>
 (bif b0 then some true else ((idx x8 x9).bind fun v0 => some (v0.1 != x9))).bind fun b1 =>
 bif b1 then
  (gau).bind fun y1 =>
  some (y1.1, ())
 else
  (idx x4 x9).bind fun v1 =>
  (idx x8 x9).bind fun v2 =>
  (gaw v1.1 v1.2.1 v1.2.2.1 v1.2.2.2.1 v1.2.2.2.2.1 v1.2.2.2.2.2.1 v1.2.2.2.2.2.2.1 v1.2.2.2.2.2.2.2 v2.1 v2.2.1 v2.2.2.1 v2.2.2.2 x10).bind fun y2 =>
  some (y2.1, ())
def gay (x0 x1 x2 : Int) : Option (Int × Unit) :=
 bif decide (x0 > x1) then
  some (0, ())
 else
  bif decide (x0 ≥ x2) then
   some (1, ())
  else
   bif decide (x1 < x2) then
    some ((-1), ())
   else
    some (0, ())
def gaz_32383 (x0 x1 x2 x3 : Int) (x4 : Bool) (x5 x6 : Int) (x7 : Bool) (x8 x9 : Int) : Option (Y10 × Y10 × Unit) :=
 bif decide ((wrap .i64 (x0 - x5)) ≥ x3) then
  some ((false, (-1), x6, ()), (x7, x8, x9, ()), ())
 else
  some ((x4, x5, x6, ()), (x7, x8, x9, ()), ())
def gaz (x0 x1 x2 : Int) (x3 : Bool) (x4 x5 x6 x7 x8 : Int) : Option ((Y10 × Int × Unit) × Unit) :=
 (gan x0 x1 x2).bind fun y0 =>
 bif (y0.1 != 0) then
  some (((false, 0, 0, ()), y0.1, ()), ())
 else
  (bif decide (x8 < 0) then some true else some (decide (x8 > 2147483648))).bind fun b0 =>
  (bif b0 then some true else some (decide (x8 < x5))).bind fun b1 =>
  bif b1 then
   some (((false, 0, 0, ()), 8, ()), ())
  else
   (bif decide (x5 < 0) then some true else some (decide (x5 > 2147483648))).bind fun b2 =>
   (bif b2 then some true else some (decide (x4 < (-1)))).bind fun b3 =>
   (bif b3 then some true else some (decide (x4 > x5))).bind fun b4 =>
   (bif b4 then some true else ((bif (x4 != (-1)) then some (!x3) else some false).bind fun b5 => some b5)).bind fun b6 =>
   bif b6 then
    some (((false, 0, 0, ()), 10, ()), ())
   else
    (gay x6 x7 x0).bind fun y1 =>
    bif (y1.1 != (-1)) then
     some (((true, (-1), x8, ()), 0, ()), ())
    else
     bif (!x3) then
      some (((x3, x4, x8, ()), 0, ()), ())
     else
      bif decide (x7 > x1) then
       some (((x3, (-1), x8, ()), 0, ()), ())
      else
       bif decide (x4 < 0) then
        (gaz_32383 x8 x0 x1 x2 x3 x8 x8 false 0 0).bind fun z0 =>
        some ((z0.1, 0, ()), ())
       else
        (gaz_32383 x8 x0 x1 x2 x3 x4 x8 false 0 0).bind fun z1 =>
        some ((z1.1, 0, ()), ())
def gba (x0 x1 x2 x3 x4 x5 : Int) (x6 : Bool) (x7 x8 x9 x10 : Int) : Option (Int × Unit) :=
 bif (!x6) then
  some ((-1), ())
 else
  (gay x9 x10 x3).bind fun y0 =>
  bif (y0.1 == 1) then
   some (1, ())
  else
   some (0, ())
def gbb (x0 x1 : Int) : Option (Int × Unit) :=
 bif decide (x0 > x1) then
  some (0, ())
 else
  (bif (x0 == 1) then some (x1 == 1) else some false).bind fun b0 =>
  bif b0 then
   some ((-1), ())
  else
   (bif decide (x0 > 1) then some true else some (decide (x1 < 1))).bind fun b1 =>
   bif b1 then
    some (1, ())
   else
    some (0, ())
def gbc (x0 x1 x2 : Int) : Option (Int × Unit) :=
 bif decide (x0 > x1) then
  some (0, ())
 else
  (bif decide (x2 ≤ 0) then some true else some (decide (x0 ≥ x2))).bind fun b0 =>
  (bif b0 then some true else some (decide (x1 ≤ (wrap .i64 (0 - x2))))).bind fun b1 =>
  bif b1 then
   some (1, ())
  else
   (bif decide (x0 > (wrap .i64 (0 - x2))) then some (decide (x1 < x2)) else some false).bind fun b2 =>
   bif b2 then
    some ((-1), ())
   else
    some (0, ())
def gbd_58r (x0 : List (Int × Int)) (x1 : List Int) (x2 : List (Int × Int)) (x3 x4 : Int) : Option ((List (Int × Int) × List Int × List (Int × Int) × Int × Int × Unit) ⊕ Y16) :=
 bif decide (x4 < x3) then
  (idx x2 x4).bind fun v0 =>
  (bif decide (v0.1 ≥ 0) then some (decide (v0.1 < (x0.length : Int))) else some false).bind fun b0 =>
  bif b0 then
   (idx x0 v0.1).bind fun v1 =>
   (gbc v1.1 v1.2 v0.2).bind fun y0 =>
   bif (decide (0 ≤ x4) && decide (x4 < (x1.length : Int))) then
   (x1[x4.toNat]?).bind fun v2 =>
   some (.inl (x0, (x1).set x4.toNat y0.1, x2, x3, (wrap .i64 (x4 + 1)), ()))
   else none
  else
   some (.inl (x0, x1, x2, x3, (wrap .i64 (x4 + 1)), ()))
 else
  some (.inr (x1, ()))
def gbd_58F (x : (List (Int × Int) × List Int × List (Int × Int) × Int × Int × Unit)) := gbd_58r x.1 x.2.1 x.2.2.1 x.2.2.2.1 x.2.2.2.2.1
def gbd_58 (x0 : List (Int × Int)) (x1 : List Int) (x2 : List (Int × Int)) (x3 x4 : Int) := loopL gbd_58F (x0, x1, x2, x3, x4, ())
def gbd (x0 x1 : List (Int × Int)) : Option Y16 :=
 bif (decide (0 ≤ (x1.length : Int)) && (decide ((x1.length : Int) ≤ (x1.length : Int)) && decide ((x1.length : Int) * ((8 : Nat) : Int) ≤ ((140737488355328 : Nat) : Int)))) then
 (gbd_58 x0 (List.replicate (x1.length : Int).toNat (0 : Int)) x1 (x1.length : Int) 0).bind fun z0 =>
 some (z0.1, ())
 else none
def gbe_506r (x0 : List Y12) (x1 : List Y15) (x2 : List (Int × Int)) (x3 : Int) (x4 : List (Int × Bool)) (x5 : List Y1) (x6 : List (Int × Bool × Bool × List (Int × Int))) (x7 : List Y13) (x8 : List Y3) (x9 : List Y5) (x10 : List Y21) (x11 x12 : List Int) (x13 : List Y15) (x14 : List Y5) (x15 x16 : Int) : Option ((List Y12 × List Y15 × List (Int × Int) × Int × (List (Int × Bool) × List Y1 × List (Int × Bool × Bool × List (Int × Int)) × List Y13 × List Y3 × List Y5 × List Y21 × List Int × Unit) × List Int × List Y15 × List Y5 × Int × Int × Unit) ⊕ ((List Int × List Y15 × Int × Unit) ⊕ (List Int × List Y15 × Unit))) :=
 bif decide (x16 < x15) then
  (idx x14 x16).bind fun v0 =>
  (gax x4 x5 x6 x7 x8 x9 x10 x11 x0 v0.2.1 x3).bind fun y0 =>
  bif (v0.1 == 1) then
   (idx x1 x16).bind fun v1 =>
   (gaz v0.2.2.2.1 v0.2.2.2.2.1 v0.2.2.2.2.2 v1.1 v1.2.1 v1.2.2 y0.1.1 y0.1.2.1 x3).bind fun y1 =>
   bif (y1.1.2.1 != 0) then
    some (.inr (.inl (([] : List Int), ([] : List Y15), y1.1.2.1, ())))
   else
    (gba v0.1 v0.2.1 v0.2.2.1 v0.2.2.2.1 v0.2.2.2.2.1 v0.2.2.2.2.2 y1.1.1.1 y1.1.1.2.1 y1.1.1.2.2.1 y0.1.1 y0.1.2.1).bind fun y2 =>
    bif (decide (0 ≤ x16) && decide (x16 < (x13.length : Int))) then
    (x13[x16.toNat]?).bind fun v2 =>
    bif (decide (0 ≤ x16) && decide (x16 < (x12.length : Int))) then
    (x12[x16.toNat]?).bind fun v3 =>
    some (.inl (x0, x1, x2, x3, (x4, x5, x6, x7, x8, x9, x10, x11, ()), (x12).set x16.toNat y2.1, (x13).set x16.toNat (y1.1.1.1, y1.1.1.2.1, y1.1.1.2.2.1), x14, x15, (wrap .i64 (x16 + 1)), ()))
    else none
    else none
  else
   bif (v0.1 == 2) then
    (gay y0.1.1 y0.1.2.1 v0.2.2.1).bind fun y3 =>
    bif (decide (0 ≤ x16) && decide (x16 < (x12.length : Int))) then
    (x12[x16.toNat]?).bind fun v4 =>
    some (.inl (x0, x1, x2, x3, (x4, x5, x6, x7, x8, x9, x10, x11, ()), (x12).set x16.toNat (wrap .i64 (0 - y3.1)), x13, x14, x15, (wrap .i64 (x16 + 1)), ()))
    else none
   else
    bif (v0.1 == 3) then
     (gbb y0.1.1 y0.1.2.1).bind fun y4 =>
     bif (decide (0 ≤ x16) && decide (x16 < (x12.length : Int))) then
     (x12[x16.toNat]?).bind fun v5 =>
     some (.inl (x0, x1, x2, x3, (x4, x5, x6, x7, x8, x9, x10, x11, ()), (x12).set x16.toNat y4.1, x13, x14, x15, (wrap .i64 (x16 + 1)), ()))
     else none
    else
     bif (v0.1 == 4) then
      bif (decide (0 ≤ x16) && decide (x16 < (x12.length : Int))) then
      (x12[x16.toNat]?).bind fun v6 =>
      (gau).bind fun y5 =>
      bif ((y0.1.1 == y5.1.1) && ((y0.1.2.1 == y5.1.2.1) && true)) then
       bif (decide (0 ≤ x16) && decide (x16 < (((x12).set x16.toNat (-1)).length : Int))) then
       (((x12).set x16.toNat (-1))[x16.toNat]?).bind fun v7 =>
       some (.inl (x0, x1, x2, x3, (x4, x5, x6, x7, x8, x9, x10, x11, ()), ((x12).set x16.toNat (-1)).set x16.toNat 1, x13, x14, x15, (wrap .i64 (x16 + 1)), ()))
       else none
      else
       some (.inl (x0, x1, x2, x3, (x4, x5, x6, x7, x8, x9, x10, x11, ()), (x12).set x16.toNat (-1), x13, x14, x15, (wrap .i64 (x16 + 1)), ()))
      else none
     else
      bif (v0.1 == 5) then
       (gbd x2 ([(v0.2.1, v0.2.2.1)] : List (Int × Int))).bind fun y6 =>
       bif (decide (0 ≤ 0) && decide (0 < (y6.1.length : Int))) then
       (y6.1[0]?).bind fun v8 =>
       bif (decide (0 ≤ x16) && decide (x16 < (x12.length : Int))) then
       (x12[x16.toNat]?).bind fun v9 =>
       some (.inl (x0, x1, x2, x3, (x4, x5, x6, x7, x8, x9, x10, x11, ()), (x12).set x16.toNat (wrap .i64 (0 - v8)), x13, x14, x15, (wrap .i64 (x16 + 1)), ()))
       else none
       else none
      else
       some (.inl (x0, x1, x2, x3, (x4, x5, x6, x7, x8, x9, x10, x11, ()), x12, x13, x14, x15, (wrap .i64 (x16 + 1)), ()))
 else
  some (.inr (.inr (x12, x13, ())))
def gbe_506F (x : (List Y12 × List Y15 × List (Int × Int) × Int × (List (Int × Bool) × List Y1 × List (Int × Bool × Bool × List (Int × Int)) × List Y13 × List Y3 × List Y5 × List Y21 × List Int × Unit) × List Int × List Y15 × List Y5 × Int × Int × Unit)) := gbe_506r x.1 x.2.1 x.2.2.1 x.2.2.2.1 x.2.2.2.2.1.1 x.2.2.2.2.1.2.1 x.2.2.2.2.1.2.2.1 x.2.2.2.2.1.2.2.2.1 x.2.2.2.2.1.2.2.2.2.1 x.2.2.2.2.1.2.2.2.2.2.1 x.2.2.2.2.1.2.2.2.2.2.2.1 x.2.2.2.2.1.2.2.2.2.2.2.2.1 x.2.2.2.2.2.1 x.2.2.2.2.2.2.1 x.2.2.2.2.2.2.2.1 x.2.2.2.2.2.2.2.2.1 x.2.2.2.2.2.2.2.2.2.1
def gbe_506 (x0 : List Y12) (x1 : List Y15) (x2 : List (Int × Int)) (x3 : Int) (x4 : List (Int × Bool)) (x5 : List Y1) (x6 : List (Int × Bool × Bool × List (Int × Int))) (x7 : List Y13) (x8 : List Y3) (x9 : List Y5) (x10 : List Y21) (x11 x12 : List Int) (x13 : List Y15) (x14 : List Y5) (x15 x16 : Int) := loopL gbe_506F (x0, x1, x2, x3, (x4, x5, x6, x7, x8, x9, x10, x11, ()), x12, x13, x14, x15, x16, ())
def gbe (x0 : List (Int × Bool)) (x1 : List Y1) (x2 : List (Int × Bool × Bool × List (Int × Int))) (x3 : List Y13) (x4 : List Y3) (x5 : List Y5) (x6 : List Y21) (x7 : List Int) (x8 : List Y12) (x9 : List Y15) (x10 : List (Int × Int)) (x11 : Int) : Option ((List Int × List Y15 × Int × Unit) × Unit) :=
 (gat x0 x1 x2 x3 x4 x5 x6 x7).bind fun y7 =>
 bif (y7.1 != 0) then
  some ((([] : List Int), ([] : List Y15), y7.1, ()), ())
 else
  (bif ((x8.length : Int) != (x4.length : Int)) then some true else some ((x9.length : Int) != (x5.length : Int))).bind fun b0 =>
  (bif b0 then some true else some ((x10.length : Int) != (x1.length : Int))).bind fun b1 =>
  bif b1 then
   some ((([] : List Int), ([] : List Y15), 11, ()), ())
  else
   (bif decide (x11 < 0) then some true else some (decide (x11 > 2147483648))).bind fun b2 =>
   bif b2 then
    some ((([] : List Int), ([] : List Y15), 8, ()), ())
   else
    bif (decide (0 ≤ (x9.length : Int)) && (decide ((x9.length : Int) ≤ (x9.length : Int)) && decide ((x9.length : Int) * ((8 : Nat) : Int) ≤ ((140737488355328 : Nat) : Int)))) then
    bif decide ((0 + x9.length) * 24 ≤ 140737488355328) then
    (gbe_506 x8 x9 x10 x11 x0 x1 x2 x3 x4 x5 x6 x7 (List.replicate (x9.length : Int).toNat (0 : Int)) x9 x5 (x5.length : Int) 0).bind fun z0 =>
    sumElim z0 (fun z1 =>
     some (z1, ()))
     (fun z2 =>
     some ((z2.1, z2.2.1, 0, ()), ()))
    else none
    else none
def gbf_122r (x0 x1 : List Int) (x2 : List Y12) (x3 x4 : Int) : Option ((List Int × List Int × List Y12 × Int × Int × Unit) ⊕ Y16) :=
 bif decide (x4 < x3) then
  (idx x2 x4).bind fun v0 =>
  bif (v0.1 == 1) then
   (bif decide (v0.2.1 < (x0.length : Int)) then ((idx x0 v0.2.1).bind fun v1 => some (decide (v1 ≥ (-1)))) else some false).bind fun b0 =>
   (bif b0 then ((idx x0 v0.2.1).bind fun v2 => some (decide (v2 ≤ 1))) else some false).bind fun b1 =>
   bif b1 then
    (idx x0 v0.2.1).bind fun v3 =>
    bif (decide (0 ≤ x4) && decide (x4 < (x1.length : Int))) then
    (x1[x4.toNat]?).bind fun v4 =>
    some (.inl (x0, (x1).set x4.toNat v3, x2, x3, (wrap .i64 (x4 + 1)), ()))
    else none
   else
    some (.inl (x0, x1, x2, x3, (wrap .i64 (x4 + 1)), ()))
  else
   bif (v0.1 == 2) then
    bif (decide (0 ≤ v0.2.2.1) && decide (v0.2.2.1 < (x1.length : Int))) then
    (x1[v0.2.2.1.toNat]?).bind fun v5 =>
    bif (decide (0 ≤ x4) && decide (x4 < (x1.length : Int))) then
    (x1[x4.toNat]?).bind fun v6 =>
    some (.inl (x0, (x1).set x4.toNat (wrap .i64 (0 - v5)), x2, x3, (wrap .i64 (x4 + 1)), ()))
    else none
    else none
   else
    bif (v0.1 == 3) then
     bif (decide (0 ≤ v0.2.2.1) && decide (v0.2.2.1 < (x1.length : Int))) then
     (x1[v0.2.2.1.toNat]?).bind fun v7 =>
     bif (decide (0 ≤ v0.2.2.2) && decide (v0.2.2.2 < (x1.length : Int))) then
     (x1[v0.2.2.2.toNat]?).bind fun v8 =>
     bif (decide (0 ≤ x4) && decide (x4 < (x1.length : Int))) then
     (x1[x4.toNat]?).bind fun v9 =>
     some (.inl (x0, (x1).set x4.toNat (bif decide (v8 < v7) then v8 else v7), x2, x3, (wrap .i64 (x4 + 1)), ()))
     else none
     else none
     else none
    else
     bif (decide (0 ≤ v0.2.2.1) && decide (v0.2.2.1 < (x1.length : Int))) then
     (x1[v0.2.2.1.toNat]?).bind fun v10 =>
     bif (decide (0 ≤ v0.2.2.2) && decide (v0.2.2.2 < (x1.length : Int))) then
     (x1[v0.2.2.2.toNat]?).bind fun v11 =>
     bif (decide (0 ≤ x4) && decide (x4 < (x1.length : Int))) then
     (x1[x4.toNat]?).bind fun v12 =>
     some (.inl (x0, (x1).set x4.toNat (bif decide (v11 > v10) then v11 else v10), x2, x3, (wrap .i64 (x4 + 1)), ()))
     else none
     else none
     else none
 else
  some (.inr (x1, ()))
def gbf_122F (x : (List Int × List Int × List Y12 × Int × Int × Unit)) := gbf_122r x.1 x.2.1 x.2.2.1 x.2.2.2.1 x.2.2.2.2.1
def gbf_122 (x0 x1 : List Int) (x2 : List Y12) (x3 x4 : Int) := loopL gbf_122F (x0, x1, x2, x3, x4, ())
def gbf (x0 : List Y12) (x1 : List Int) : Option (Int × Unit) :=
 (gaq x0).bind fun y0 =>
 bif (!y0.1) then
  some (0, ())
 else
  bif (decide (0 ≤ (x0.length : Int)) && (decide ((x0.length : Int) ≤ (x0.length : Int)) && decide ((x0.length : Int) * ((8 : Nat) : Int) ≤ ((140737488355328 : Nat) : Int)))) then
  (gbf_122 x1 (List.replicate (x0.length : Int).toNat (0 : Int)) x0 (x0.length : Int) 0).bind fun z0 =>
  bif (decide (0 ≤ (wrap .i64 ((z0.1.length : Int) - 1))) && decide ((wrap .i64 ((z0.1.length : Int) - 1)) < (z0.1.length : Int))) then
  (z0.1[(wrap .i64 ((z0.1.length : Int) - 1)).toNat]?).bind fun v13 =>
  some (v13, ())
  else none
  else none
def gbg_1018r (x0 : List Int) (x1 : Int) (x2 : List Y15) (x3 : List Int) (x4 : List Y21) (x5 x6 : Int) : Option ((List Int × Int × List Y15 × List Int × List Y21 × Int × Int × Unit) ⊕ (List Y15 × List Int × Unit)) :=
 bif decide (x6 < x5) then
  (idx x4 x6).bind fun v0 =>
  bif (decide (0 ≤ x6) && decide (x6 < (x2.length : Int))) then
  (gbf v0.1 x0).bind fun y0 =>
  bif (y0.1 == (-1)) then
   (x2[x6.toNat]?).bind fun v1 =>
   bif (v1.2.1 == (-1)) then
    (x2[x6.toNat]?).bind fun v2 =>
    some (.inl (x0, x1, (x2).set x6.toNat (v2.1, x1, v2.2.2), x3, x4, x5, (wrap .i64 (x6 + 1)), ()))
   else
    some (.inl (x0, x1, x2, x3, x4, x5, (wrap .i64 (x6 + 1)), ()))
  else
   (x2[x6.toNat]?).bind fun v3 =>
   (((x2).set x6.toNat (v3.1, (-1), v3.2.2))[x6.toNat]?).bind fun v4 =>
   bif (!v4.1) then
    (((x2).set x6.toNat (v3.1, (-1), v3.2.2))[x6.toNat]?).bind fun v5 =>
    ((((x2).set x6.toNat (v3.1, (-1), v3.2.2)).set x6.toNat (true, v5.2.1, v5.2.2))[x6.toNat]?).bind fun v6 =>
    bif decide ((x3.length + 1) * 8 ≤ 140737488355328) then
    some (.inl (x0, x1, (((x2).set x6.toNat (v3.1, (-1), v3.2.2)).set x6.toNat (true, v5.2.1, v5.2.2)).set x6.toNat (v6.1, v6.2.1, y0.1), (x3 ++ ([x6] : List Int)), x4, x5, (wrap .i64 (x6 + 1)), ()))
    else none
   else
    some (.inl (x0, x1, (x2).set x6.toNat (v3.1, (-1), v3.2.2), x3, x4, x5, (wrap .i64 (x6 + 1)), ()))
  else none
 else
  some (.inr (x2, x3, ()))
def gbg_1018F (x : (List Int × Int × List Y15 × List Int × List Y21 × Int × Int × Unit)) := gbg_1018r x.1 x.2.1 x.2.2.1 x.2.2.2.1 x.2.2.2.2.1 x.2.2.2.2.2.1 x.2.2.2.2.2.2.1
def gbg_1018 (x0 : List Int) (x1 : Int) (x2 : List Y15) (x3 : List Int) (x4 : List Y21) (x5 x6 : Int) := loopL gbg_1018F (x0, x1, x2, x3, x4, x5, x6, ())
def gbg (x0 : List (Int × Bool)) (x1 : List Y1) (x2 : List (Int × Bool × Bool × List (Int × Int))) (x3 : List Y13) (x4 : List Y3) (x5 : List Y5) (x6 : List Y21) (x7 x8 : List Int) (x9 : List Y15) (x10 : Int) : Option ((List Y15 × List Int × Int × Unit) × Unit) :=
 (gat x0 x1 x2 x3 x4 x5 x6 x7).bind fun y1 =>
 bif (y1.1 != 0) then
  some ((([] : List Y15), ([] : List Int), y1.1, ()), ())
 else
  (bif ((x8.length : Int) != (x5.length : Int)) then some true else some ((x9.length : Int) != (x6.length : Int))).bind fun b0 =>
  bif b0 then
   some ((([] : List Y15), ([] : List Int), 11, ()), ())
  else
   (bif decide (x10 < 0) then some true else some (decide (x10 > 2147483648))).bind fun b1 =>
   bif b1 then
    some ((([] : List Y15), ([] : List Int), 8, ()), ())
   else
    bif decide ((0 + x9.length) * 24 ≤ 140737488355328) then
    (gbg_1018 x8 x10 x9 ([] : List Int) x6 (x6.length : Int) 0).bind fun z0 =>
    some ((z0.1, z0.2.1, 0, ()), ())
    else none
def gbh_58r (x0 x1 : List Int) (x2 : Int) : Option ((List Int × List Int × Int × Unit) ⊕ ((Bool × Unit) ⊕ (Unit))) :=
 bif decide (x2 < (x0.length : Int)) then
  (idx x0 x2).bind fun v0 =>
  (idx x1 x2).bind fun v1 =>
  bif (v0 != v1) then
   some (.inr (.inl (false, ())))
  else
   some (.inl (x0, x1, (wrap .i64 (x2 + 1)), ()))
 else
  some (.inr (.inr ()))
def gbh_58F (x : (List Int × List Int × Int × Unit)) := gbh_58r x.1 x.2.1 x.2.2.1
def gbh_58 (x0 x1 : List Int) (x2 : Int) := loopL gbh_58F (x0, x1, x2, ())
def gbh (x0 x1 : List Int) : Option (Bool × Unit) :=
 bif ((x0.length : Int) != (x1.length : Int)) then
  some (false, ())
 else
  (gbh_58 x0 x1 0).bind fun z0 =>
  sumElim z0 (fun z1 =>
   some (z1.1, ()))
   (fun z2 =>
   some (true, ()))
def gbi : Option (Bool × Unit) :=
 (gaa).bind fun y0 =>
 (gad y0.1.1 y0.1.2.1).bind fun y1 =>
 (gbe y1.1.1.1 y1.1.1.2.1 y1.1.1.2.2.1 y1.1.1.2.2.2.1 y1.1.1.2.2.2.2.1 y1.1.1.2.2.2.2.2.1 y1.1.1.2.2.2.2.2.2.1 y1.1.1.2.2.2.2.2.2.2.1 ([((-1), 0, 0, 0)] : List Y12) ([(false, (-1), 0)] : List Y15) ([(300, 300)] : List (Int × Int)) 3).bind fun y2 =>
 (gbe y1.1.1.1 y1.1.1.2.1 y1.1.1.2.2.1 y1.1.1.2.2.2.1 y1.1.1.2.2.2.2.1 y1.1.1.2.2.2.2.2.1 y1.1.1.2.2.2.2.2.2.1 y1.1.1.2.2.2.2.2.2.2.1 ([(0, 0, 1, 2)] : List Y12) ([(false, (-1), 0)] : List Y15) ([(300, 300)] : List (Int × Int)) 3).bind fun y3 =>
 (gbg y1.1.1.1 y1.1.1.2.1 y1.1.1.2.2.1 y1.1.1.2.2.2.1 y1.1.1.2.2.2.2.1 y1.1.1.2.2.2.2.2.1 y1.1.1.2.2.2.2.2.2.1 y1.1.1.2.2.2.2.2.2.2.1 y2.1.1 ([(false, 2, 0)] : List Y15) 3).bind fun y4 =>
 (gbg y1.1.1.1 y1.1.1.2.1 y1.1.1.2.2.1 y1.1.1.2.2.2.1 y1.1.1.2.2.2.2.1 y1.1.1.2.2.2.2.2.1 y1.1.1.2.2.2.2.2.2.1 y1.1.1.2.2.2.2.2.2.2.1 y3.1.1 ([(false, (-1), 0)] : List Y15) 3).bind fun y5 =>
 (gat y1.1.1.1 y1.1.1.2.1 y1.1.1.2.2.1 y1.1.1.2.2.2.1 y1.1.1.2.2.2.2.1 y1.1.1.2.2.2.2.2.1 y1.1.1.2.2.2.2.2.2.1 y1.1.1.2.2.2.2.2.2.2.1).bind fun y6 =>
 (bif (y6.1 == 0) then some (y2.1.2.2.1 == 0) else some false).bind fun b0 =>
 (bif b0 then some (y3.1.2.2.1 == 0) else some false).bind fun b1 =>
 (bif b1 then ((gbh y2.1.1 ([0] : List Int)).bind fun y7 => some y7.1) else some false).bind fun b2 =>
 (bif b2 then ((gbh y3.1.1 ([(-1)] : List Int)).bind fun y8 => some y8.1) else some false).bind fun b3 =>
 (bif b3 then some ((y2.1.2.1.length : Int) == 1) else some false).bind fun b4 =>
 (bif b4 then (bif (decide (0 ≤ 0) && decide (0 < (y2.1.2.1.length : Int))) then ((y2.1.2.1[0]?).bind fun v0 => some v0.1) else none) else some false).bind fun b5 =>
 (bif b5 then some (y4.1.2.2.1 == 0) else some false).bind fun b6 =>
 (bif b6 then some (y5.1.2.2.1 == 0) else some false).bind fun b7 =>
 (bif b7 then ((gbh y4.1.2.1 ([0] : List Int)).bind fun y9 => some y9.1) else some false).bind fun b8 =>
 (bif b8 then some ((y5.1.2.1.length : Int) == 0) else some false).bind fun b9 =>
 (bif b9 then some ((y4.1.1.length : Int) == 1) else some false).bind fun b10 =>
 (bif b10 then (bif (decide (0 ≤ 0) && decide (0 < (y4.1.1.length : Int))) then ((y4.1.1[0]?).bind fun v1 => some ((v1.1 == true) && ((v1.2.1 == (-1)) && ((v1.2.2 == 0) && true)))) else none) else some false).bind fun b11 =>
 (bif b11 then some ((y5.1.1.length : Int) == 1) else some false).bind fun b12 =>
 (bif b12 then (bif (decide (0 ≤ 0) && decide (0 < (y5.1.1.length : Int))) then ((y5.1.1[0]?).bind fun v2 => some ((v2.1 == false) && ((v2.2.1 == 3) && ((v2.2.2 == 0) && true)))) else none) else some false).bind fun b13 =>
 some (b13, ())
def gbj (x0 : List Int) : Option (Y11 × Unit) :=
 bif (decide (0 ≤ (bif decide (300 < (x0.length : Int)) then 300 else (x0.length : Int))) && decide ((bif decide (300 < (x0.length : Int)) then 300 else (x0.length : Int)) ≤ (x0.length : Int))) then
 some (((x0).take ((bif decide (300 < (x0.length : Int)) then 300 else (x0.length : Int)).toNat), 0, ()), ())
 else none
def gbk_63 (x0 : List Int) (x1 x2 x3 : Int) : Option (Y11 × Int × Unit) :=
 bif (!decide (x2 = 0)) then
 some ((x0, x1, ()), (Int.tmod x3 x2), ())
 else none
def gbk (x0 : List Int) (x1 x2 : Int) : Option (Int × (Y11 × Unit)) :=
 (bif decide (x2 < 1) then some true else some (decide (x1 ≥ (x0.length : Int)))).bind fun b0 =>
 bif b0 then
  some (0, ((x0, x1, ()), ()))
 else
  (idx x0 (wrap .i64 ((wrap .i64 (x1 + 1)) - 1))).bind fun v0 =>
  (bif decide (x2 > 256) then some (decide ((wrap .i64 (x1 + 1)) < (x0.length : Int))) else some false).bind fun b1 =>
  bif b1 then
   (idx x0 (wrap .i64 (x1 + 1))).bind fun v1 =>
   (gbk_63 x0 (wrap .i64 ((wrap .i64 (x1 + 1)) + 1)) x2 (wrap .i64 ((wrap .i64 ((wrap .i64 v0) * 256)) + (wrap .i64 v1)))).bind fun z0 =>
   some (z0.2.1, (z0.1, ()))
  else
   (gbk_63 x0 (wrap .i64 (x1 + 1)) x2 (wrap .i64 v0)).bind fun z1 =>
   some (z1.2.1, (z1.1, ()))
def gbl (x0 : List Int) (x1 x2 : Int) : Option (Bool × (Y11 × Unit)) :=
 (gbk x0 x1 x2).bind fun y0 =>
 some ((y0.1 == (wrap .i64 (x2 - 1))), y0.2)
def gbm (x0 : List Int) (x1 x2 x3 : Int) : Option (Int × (Y11 × Unit)) :=
 (gbk x0 x1 (wrap .i64 ((wrap .i64 (x3 - x2)) + 1))).bind fun y0 =>
 some ((wrap .i64 (x2 + y0.1)), y0.2)
def gbn (x0 : List Int) (x1 x2 x3 : Int) : Option ((Int × Int × Int × Int × Bool × Bool × Int × Int × Int × Int × Unit) × (Y11 × Unit)) :=
 (gbm x0 x1 1 400).bind fun y0 =>
 (gbm y0.2.1.1 y0.2.1.2.1 4 30).bind fun y1 =>
 (gbk y1.2.1.1 y1.2.1.2.1 4).bind fun y2 =>
 (gbm y2.2.1.1 y2.2.1.2.1 1 20).bind fun y3 =>
 (gbk y3.2.1.1 y3.2.1.2.1 3).bind fun y4 =>
 (gbm y4.2.1.1 y4.2.1.2.1 (-300) 300).bind fun y5 =>
 (gbk y5.2.1.1 y5.2.1.2.1 20).bind fun y6 =>
 some ((x2, x3, y0.1, y1.1, decide (y2.1 > 0), false, y3.1, (wrap .i64 (y3.1 + y4.1)), y5.1, (wrap .i64 (y5.1 + y6.1)), ()), y6.2)
def gbo_58r (x0 : List Int) (x1 : Int) (x2 : List (Int × Int)) (x3 : Int) : Option ((Y11 × List (Int × Int) × Int × Unit) ⊕ (Y11 × List (Int × Int) × Unit)) :=
 bif decide (x3 > 0) then
  bif (decide (0 ≤ (wrap .i64 ((x2.length : Int) - 1))) && decide ((wrap .i64 ((x2.length : Int) - 1)) < (x2.length : Int))) then
  (x2[(wrap .i64 ((x2.length : Int) - 1)).toNat]?).bind fun v0 =>
  (gbm x0 x1 1 40).bind fun y0 =>
  (gbk y0.2.1.1 y0.2.1.2.1 900).bind fun y1 =>
  bif decide ((x2.length + 1) * 16 ≤ 140737488355328) then
  some (.inl (y1.2.1, (x2 ++ ([((wrap .i64 (v0.1 + y0.1)), (bif decide ((wrap .i64 (v0.2 - y1.1)) > 0) then (wrap .i64 (v0.2 - y1.1)) else 0))] : List (Int × Int))), (wrap .i64 (x3 - 1)), ()))
  else none
  else none
 else
  some (.inr ((x0, x1, ()), x2, ()))
def gbo_58F (x : (Y11 × List (Int × Int) × Int × Unit)) := gbo_58r x.1.1 x.1.2.1 x.2.1 x.2.2.1
def gbo_58 (x0 : List Int) (x1 : Int) (x2 : List (Int × Int)) (x3 : Int) := loopL gbo_58F ((x0, x1, ()), x2, x3, ())
def gbo (x0 : List Int) (x1 : Int) : Option (List (Int × Int) × (Y11 × Unit)) :=
 (gbm x0 x1 (-20) 10).bind fun y2 =>
 (gbm y2.2.1.1 y2.2.1.2.1 500 3000).bind fun y3 =>
 (gbk y3.2.1.1 y3.2.1.2.1 4).bind fun y4 =>
 (gbo_58 y4.2.1.1 y4.2.1.2.1 ([(y2.1, y3.1)] : List (Int × Int)) y4.1).bind fun z0 =>
 some (z0.2.1, (z0.1, ()))
def gbp_58r (x0 : List Int) (x1 x2 x3 : Int) (x4 : List Int) (x5 x6 : Int) (x7 : List Int) (x8 : Int) : Option ((Y11 × Y7 × Y7 × Int × Unit) ⊕ (Y11 × Y7 × Y7 × Unit)) :=
 bif decide (x8 > 0) then
  bif (decide (0 ≤ (wrap .i64 ((x7.length : Int) - 1))) && decide ((wrap .i64 ((x7.length : Int) - 1)) < (x7.length : Int))) then
  (x7[(wrap .i64 ((x7.length : Int) - 1)).toNat]?).bind fun v0 =>
  (gbm x0 x1 1 60).bind fun y0 =>
  bif decide ((x7.length + 1) * 8 ≤ 140737488355328) then
  some (.inl (y0.2.1, (x2, x3, x4, ()), (x5, x6, (x7 ++ ([(bif decide ((wrap .i64 (v0 - y0.1)) > 0) then (wrap .i64 (v0 - y0.1)) else 0)] : List Int)), ()), (wrap .i64 (x8 - 1)), ()))
  else none
  else none
 else
  some (.inr ((x0, x1, ()), (x2, x3, x4, ()), (x5, x6, x7, ()), ()))
def gbp_58F (x : (Y11 × Y7 × Y7 × Int × Unit)) := gbp_58r x.1.1 x.1.2.1 x.2.1.1 x.2.1.2.1 x.2.1.2.2.1 x.2.2.1.1 x.2.2.1.2.1 x.2.2.1.2.2.1 x.2.2.2.1
def gbp_58 (x0 : List Int) (x1 x2 x3 : Int) (x4 : List Int) (x5 x6 : Int) (x7 : List Int) (x8 : Int) := loopL gbp_58F ((x0, x1, ()), (x2, x3, x4, ()), (x5, x6, x7, ()), x8, ())
def gbp (x0 : List Int) (x1 x2 : Int) : Option (Y7 × (Y11 × Unit)) :=
 (gbm x0 x1 200 900).bind fun y1 =>
 (gbm y1.2.1.1 y1.2.1.2.1 1 3).bind fun y2 =>
 (gbp_58 y2.2.1.1 y2.2.1.2.1 0 0 ([] : List Int) x2 (-1) ([y1.1] : List Int) y2.1).bind fun z0 =>
 some (z0.2.2.1, (z0.1, ()))
def gbq_122r (x0 : List Int) (x1 : Int) (x2 : List (Int × Bool)) (x3 : List Y1) (x4 : List (Int × Bool × Bool × List (Int × Int))) (x5 : List Y13) (x6 x7 x8 x9 : List Int) (x10 x11 : Int) : Option ((Y11 × (List (Int × Bool) × List Y1 × List (Int × Bool × Bool × List (Int × Int)) × List Y13 × Unit) × Y8 × Y8 × Int × Int × Unit) ⊕ (Y11 × (List (Int × Bool) × List Y1 × List (Int × Bool × Bool × List (Int × Int)) × List Y13 × Unit) × Y8 × Y8 × Int × Unit)) :=
 (bif decide (x11 > 0) then some (decide (x10 > 0)) else some false).bind fun b0 =>
 bif b0 then
  (gbk x0 x1 x10).bind fun y0 =>
  (gbl y0.2.1.1 y0.2.1.2.1 3).bind fun y1 =>
  (gbl y1.2.1.1 y1.2.1.2.1 3).bind fun y2 =>
  (gbo y2.2.1.1 y2.2.1.2.1).bind fun y3 =>
  bif decide ((x4.length + 1) * 40 ≤ 140737488355328) then
  (gbk y3.2.1.1 y3.2.1.2.1 3).bind fun y4 =>
  bif decide ((x8.length + 1) * 8 ≤ 140737488355328) then
  some (.inl (y4.2.1, (x2, x3, (x4 ++ ([(y0.1, y1.1, y2.1, y3.1)] : List (Int × Bool × Bool × List (Int × Int)))), x5, ()), (x6, x7, ()), ((x8 ++ ([y4.1] : List Int)), x9, ()), x10, (wrap .i64 (x11 - 1)), ()))
  else none
  else none
 else
  some (.inr ((x0, x1, ()), (x2, x3, x4, x5, ()), (x6, x7, ()), (x8, x9, ()), x10, ()))
def gbq_122F (x : (Y11 × (List (Int × Bool) × List Y1 × List (Int × Bool × Bool × List (Int × Int)) × List Y13 × Unit) × Y8 × Y8 × Int × Int × Unit)) := gbq_122r x.1.1 x.1.2.1 x.2.1.1 x.2.1.2.1 x.2.1.2.2.1 x.2.1.2.2.2.1 x.2.2.1.1 x.2.2.1.2.1 x.2.2.2.1.1 x.2.2.2.1.2.1 x.2.2.2.2.1 x.2.2.2.2.2.1
def gbq_122 (x0 : List Int) (x1 : Int) (x2 : List (Int × Bool)) (x3 : List Y1) (x4 : List (Int × Bool × Bool × List (Int × Int))) (x5 : List Y13) (x6 x7 x8 x9 : List Int) (x10 x11 : Int) := loopL gbq_122F ((x0, x1, ()), (x2, x3, x4, x5, ()), (x6, x7, ()), (x8, x9, ()), x10, x11, ())
def gbq_250r (x0 : List Int) (x1 : Int) (x2 : List (Int × Bool)) (x3 : List Y1) (x4 : List (Int × Bool × Bool × List (Int × Int))) (x5 : List Y13) (x6 x7 x8 x9 : List Int) (x10 x11 : Int) : Option ((Y11 × (List (Int × Bool) × List Y1 × List (Int × Bool × Bool × List (Int × Int)) × List Y13 × Unit) × Y8 × Y8 × Int × Int × Unit) ⊕ (Y11 × (List (Int × Bool) × List Y1 × List (Int × Bool × Bool × List (Int × Int)) × List Y13 × Unit) × Y8 × Y8 × Unit)) :=
 (bif decide (x11 > 0) then some (decide (x10 > 0)) else some false).bind fun b1 =>
 bif b1 then
  (gbk x0 x1 x10).bind fun y5 =>
  (gbp y5.2.1.1 y5.2.1.2.1 y5.1).bind fun y6 =>
  bif decide ((x5.length + 1) * 40 ≤ 140737488355328) then
  (gbk y6.2.1.1 y6.2.1.2.1 (y6.1.2.2.1.length : Int)).bind fun y7 =>
  bif decide ((x9.length + 1) * 8 ≤ 140737488355328) then
  some (.inl (y7.2.1, (x2, x3, x4, (x5 ++ ([(y6.1.1, y6.1.2.1, y6.1.2.2.1)] : List Y13)), ()), (x6, x7, ()), (x8, (x9 ++ ([y7.1] : List Int)), ()), x10, (wrap .i64 (x11 - 1)), ()))
  else none
  else none
 else
  some (.inr ((x0, x1, ()), (x2, x3, x4, x5, ()), (x6, x7, ()), (x8, x9, ()), ()))
def gbq_250F (x : (Y11 × (List (Int × Bool) × List Y1 × List (Int × Bool × Bool × List (Int × Int)) × List Y13 × Unit) × Y8 × Y8 × Int × Int × Unit)) := gbq_250r x.1.1 x.1.2.1 x.2.1.1 x.2.1.2.1 x.2.1.2.2.1 x.2.1.2.2.2.1 x.2.2.1.1 x.2.2.1.2.1 x.2.2.2.1.1 x.2.2.2.1.2.1 x.2.2.2.2.1 x.2.2.2.2.2.1
def gbq_250 (x0 : List Int) (x1 : Int) (x2 : List (Int × Bool)) (x3 : List Y1) (x4 : List (Int × Bool × Bool × List (Int × Int))) (x5 : List Y13) (x6 x7 x8 x9 : List Int) (x10 x11 : Int) := loopL gbq_250F ((x0, x1, ()), (x2, x3, x4, x5, ()), (x6, x7, ()), (x8, x9, ()), x10, x11, ())
def gbq (x0 : List Int) (x1 : Int) (x2 : List (Int × Bool)) (x3 : List Y1) (x4 : List (Int × Bool × Bool × List (Int × Int))) (x5 : List Y13) : Option (Y8 × (Y11 × (List (Int × Bool) × List Y1 × List (Int × Bool × Bool × List (Int × Int)) × List Y13 × Unit) × Unit)) :=
 (gbk x0 x1 3).bind fun y8 =>
 (gbq_122 y8.2.1.1 y8.2.1.2.1 x2 x3 x4 x5 ([] : List Int) ([] : List Int) ([] : List Int) ([] : List Int) (x3.length : Int) y8.1).bind fun z0 =>
 (gbk z0.1.1 z0.1.2.1 3).bind fun y9 =>
 (gbq_250 y9.2.1.1 y9.2.1.2.1 z0.2.1.1 z0.2.1.2.1 z0.2.1.2.2.1 z0.2.1.2.2.2.1 z0.2.2.1.1 z0.2.2.1.2.1 z0.2.2.2.1.1 z0.2.2.2.1.2.1 z0.2.2.2.2.1 y9.1).bind fun z1 =>
 some (z1.2.2.2.1, (z1.1, z1.2.1, ()))
def gbr_250r (x0 x1 : Int) (x2 : List Int) (x3 x4 x5 x6 x7 : Int) : Option ((Y7 × Y14 × Y14 × Int × Unit) ⊕ (Y14 × Y14 × Unit)) :=
 bif decide (x7 < (x2.length : Int)) then
  (idx x2 x7).bind fun v0 =>
  (idx x2 x7).bind fun v1 =>
  some (.inl ((x0, x1, x2, ()), (x3, x4, ()), ((bif decide (v0 < x5) then v0 else x5), (bif decide (v1 > x6) then v1 else x6), ()), (wrap .i64 (x7 + 1)), ()))
 else
  some (.inr ((x3, x4, ()), (x5, x6, ()), ()))
def gbr_250F (x : (Y7 × Y14 × Y14 × Int × Unit)) := gbr_250r x.1.1 x.1.2.1 x.1.2.2.1 x.2.1.1 x.2.1.2.1 x.2.2.1.1 x.2.2.1.2.1 x.2.2.2.1
def gbr_250 (x0 x1 : Int) (x2 : List Int) (x3 x4 x5 x6 x7 : Int) := loopL gbr_250F ((x0, x1, x2, ()), (x3, x4, ()), (x5, x6, ()), x7, ())
def gbr (x0 x1 : Int) (x2 : List Int) (x3 : Int) : Option (Y14 × Unit) :=
 (bif ((x2.length : Int) == 0) then some true else some (decide (x3 < (-1)))).bind fun b0 =>
 (bif b0 then some true else some (decide (x3 ≥ (x2.length : Int)))).bind fun b1 =>
 bif b1 then
  some ((0, 0, ()), ())
 else
  bif decide (x3 ≥ 0) then
   (idx x2 x3).bind fun v2 =>
   (idx x2 x3).bind fun v3 =>
   some ((v2, v3, ()), ())
  else
   (idx x2 0).bind fun v4 =>
   (idx x2 0).bind fun v5 =>
   (gbr_250 x0 x1 x2 0 0 v4 v5 0).bind fun z0 =>
   some (z0.2.1, ())
def gbs (x0 x1 : Int) : Option (Int × Unit) :=
 bif (!decide (x1 = 0)) then
 bif (!decide (x1 = 0)) then
 bif decide ((Int.tmod x0 x1) < 0) then
  some ((wrap .i64 ((wrap .i64 (Int.tdiv x0 x1)) - 1)), ())
 else
  some ((wrap .i64 (Int.tdiv x0 x1)), ())
 else none
 else none
def gbt (x0 x1 : Int) : Option (Int × Unit) :=
 (gbs (wrap .i64 (0 - x0)) x1).bind fun y0 =>
 some ((wrap .i64 (0 - y0.1)), ())
def gbu_252r (x0 x1 : Int) (x2 x3 : Bool) (x4 : List (Int × Int)) (x5 x6 x7 : Int) : Option ((Int × (Int × Bool × Bool × List (Int × Int) × Unit) × Y14 × Int × Unit) ⊕ (Int × (Int × Bool × Bool × List (Int × Int) × Unit) × Y14 × Int × Unit)) :=
 (idx x4 (wrap .i64 (x7 + 1))).bind fun v0 =>
 bif decide (v0.1 ≤ x0) then
  some (.inl (x0, (x1, x2, x3, x4, ()), (x5, x6, ()), (wrap .i64 (x7 + 1)), ()))
 else
  some (.inr (x0, (x1, x2, x3, x4, ()), (x5, x6, ()), x7, ()))
def gbu_252F (x : (Int × (Int × Bool × Bool × List (Int × Int) × Unit) × Y14 × Int × Unit)) := gbu_252r x.1 x.2.1.1 x.2.1.2.1 x.2.1.2.2.1 x.2.1.2.2.2.1 x.2.2.1.1 x.2.2.1.2.1 x.2.2.2.1
def gbu_252 (x0 x1 : Int) (x2 x3 : Bool) (x4 : List (Int × Int)) (x5 x6 x7 : Int) := loopL gbu_252F (x0, (x1, x2, x3, x4, ()), (x5, x6, ()), x7, ())
def gbu (x0 : Int) (x1 x2 : Bool) (x3 : List (Int × Int)) (x4 : Int) : Option (Y14 × Unit) :=
 (idx x3 0).bind fun v1 =>
 bif decide (x4 ≤ v1.1) then
  (idx x3 0).bind fun v2 =>
  (idx x3 0).bind fun v3 =>
  some ((v2.2, v3.2, ()), ())
 else
  (idx x3 (wrap .i64 ((x3.length : Int) - 1))).bind fun v4 =>
  bif decide (x4 ≥ v4.1) then
   (idx x3 (wrap .i64 ((x3.length : Int) - 1))).bind fun v5 =>
   (idx x3 (wrap .i64 ((x3.length : Int) - 1))).bind fun v6 =>
   some ((v5.2, v6.2, ()), ())
  else
   (gbu_252 x4 x0 x1 x2 x3 0 0 0).bind fun z0 =>
   (idx z0.2.1.2.2.2.1 z0.2.2.2.1).bind fun v7 =>
   (idx z0.2.1.2.2.2.1 (wrap .i64 (z0.2.2.2.1 + 1))).bind fun v8 =>
   (gbs (wrap .i64 ((wrap .i64 (v8.2 - v7.2)) * (wrap .i64 (z0.1 - v7.1)))) (wrap .i64 (v8.1 - v7.1))).bind fun y0 =>
   (gbt (wrap .i64 ((wrap .i64 (v8.2 - v7.2)) * (wrap .i64 (z0.1 - v7.1)))) (wrap .i64 (v8.1 - v7.1))).bind fun y1 =>
   some (((wrap .i64 (v7.2 + y0.1)), (wrap .i64 (v7.2 + y1.1)), ()), ())
def gbv (x0 : Int) (x1 x2 : Bool) (x3 : List (Int × Int)) (x4 : Bool) (x5 : Int) : Option (Y14 × Unit) :=
 bif x4 then
  (gbu x0 x1 x2 x3 (wrap .i64 (0 - x5))).bind fun y0 =>
  some (((wrap .i64 (0 - y0.1.2.1)), (wrap .i64 (0 - y0.1.1)), ()), ())
 else
  (gbu x0 x1 x2 x3 x5).bind fun y1 =>
  some (y1.1, ())
def gbw (x0 : Int) (x1 x2 : Bool) (x3 : List (Int × Int)) (x4 x5 : Int) : Option (Y14 × Unit) :=
 bif (x4 == 0) then
  some ((0, 0, ()), ())
 else
  bif (x4 == 1) then
   (gbv x0 x1 x2 x3 x1 x5).bind fun y0 =>
   some (y0.1, ())
  else
   bif (x4 == 2) then
    (gbv x0 x1 x2 x3 (!x1) x5).bind fun y1 =>
    some (y1.1, ())
   else
    (gbv x0 x1 x2 x3 false x5).bind fun y2 =>
    (gbv x0 x1 x2 x3 true x5).bind fun y3 =>
    some (((bif decide (0 < (bif decide (y3.1.1 < y2.1.1) then y3.1.1 else y2.1.1)) then 0 else (bif decide (y3.1.1 < y2.1.1) then y3.1.1 else y2.1.1)), (bif decide (0 > (bif decide (y3.1.2.1 > y2.1.2.1) then y3.1.2.1 else y2.1.2.1)) then 0 else (bif decide (y3.1.2.1 > y2.1.2.1) then y3.1.2.1 else y2.1.2.1)), ()), ())
def gbx_14650r (x0 : List Int) (x1 : Int) (x2 : List (Int × Bool)) (x3 : List Y1) (x4 : List (Int × Bool × Bool × List (Int × Int))) (x5 : List Y13) (x6 x7 x8 x9 : List Int) (x10 : Int) (x11 : Nat) (x12 x13 x14 : Int) : Option ((Y11 × (List (Int × Bool) × List Y1 × List (Int × Bool × Bool × List (Int × Int)) × List Y13 × Unit) × Y8 × Y8 × Int × Nat × Int × Int × Int × Unit) ⊕ (Y11 × (List (Int × Bool) × List Y1 × List (Int × Bool × Bool × List (Int × Int)) × List Y13 × Unit) × Y8 × Y8 × Int × Nat × Int × Int × Unit)) :=
 bif decide (x14 < (x5.length : Int)) then
  bif (decide (0 ≤ x14) && decide (x14 < (x5.length : Int))) then
  (x5[x14.toNat]?).bind fun v0 =>
  bif (v0.1 == x10) then
   bif (decide (0 ≤ x14) && decide (x14 < (x5.length : Int))) then
   (x5[x14.toNat]?).bind fun v1 =>
   (idx x7 x14).bind fun v2 =>
   (gbr v1.1 v1.2.1 v1.2.2 v2).bind fun y0 =>
   some (.inl ((x0, x1, ()), (x2, x3, x4, x5, ()), (x6, x7, ()), (x8, x9, ()), x10, x11, x12, (wrap .i64 (x13 + y0.1.1)), (wrap .i64 (x14 + 1)), ()))
   else none
  else
   some (.inl ((x0, x1, ()), (x2, x3, x4, x5, ()), (x6, x7, ()), (x8, x9, ()), x10, x11, x12, x13, (wrap .i64 (x14 + 1)), ()))
  else none
 else
  some (.inr ((x0, x1, ()), (x2, x3, x4, x5, ()), (x6, x7, ()), (x8, x9, ()), x10, x11, x12, x13, ()))
def gbx_14650F (x : (Y11 × (List (Int × Bool) × List Y1 × List (Int × Bool × Bool × List (Int × Int)) × List Y13 × Unit) × Y8 × Y8 × Int × Nat × Int × Int × Int × Unit)) := gbx_14650r x.1.1 x.1.2.1 x.2.1.1 x.2.1.2.1 x.2.1.2.2.1 x.2.1.2.2.2.1 x.2.2.1.1 x.2.2.1.2.1 x.2.2.2.1.1 x.2.2.2.1.2.1 x.2.2.2.2.1 x.2.2.2.2.2.1 x.2.2.2.2.2.2.1 x.2.2.2.2.2.2.2.1 x.2.2.2.2.2.2.2.2.1
def gbx_14650 (x0 : List Int) (x1 : Int) (x2 : List (Int × Bool)) (x3 : List Y1) (x4 : List (Int × Bool × Bool × List (Int × Int))) (x5 : List Y13) (x6 x7 x8 x9 : List Int) (x10 : Int) (x11 : Nat) (x12 x13 x14 : Int) := loopL gbx_14650F ((x0, x1, ()), (x2, x3, x4, x5, ()), (x6, x7, ()), (x8, x9, ()), x10, x11, x12, x13, x14, ())
def gbx_58618r (x0 : List Int) (x1 : Int) (x2 : List (Int × Bool)) (x3 : List Y1) (x4 : List (Int × Bool × Bool × List (Int × Int))) (x5 : List Y13) (x6 x7 x8 x9 : List Int) (x10 : Int) (x11 : Nat) (x12 x13 x14 : Int) : Option ((Y11 × (List (Int × Bool) × List Y1 × List (Int × Bool × Bool × List (Int × Int)) × List Y13 × Unit) × Y8 × Y8 × Int × Nat × Int × Int × Int × Unit) ⊕ (Y11 × (List (Int × Bool) × List Y1 × List (Int × Bool × Bool × List (Int × Int)) × List Y13 × Unit) × Y8 × Y8 × Int × Nat × Int × Unit)) :=
 bif decide (x14 < (x4.length : Int)) then
  bif (decide (0 ≤ x14) && decide (x14 < (x4.length : Int))) then
  (x4[x14.toNat]?).bind fun v3 =>
  bif (v3.1 == x10) then
   bif (decide (0 ≤ x14) && decide (x14 < (x4.length : Int))) then
   (x4[x14.toNat]?).bind fun v4 =>
   (idx x6 x14).bind fun v5 =>
   (gbw v4.1 v4.2.1 v4.2.2.1 v4.2.2.2 v5 x12).bind fun y1 =>
   some (.inl ((x0, x1, ()), (x2, x3, x4, x5, ()), (x6, x7, ()), (x8, x9, ()), x10, x11, x12, (wrap .i64 (x13 - y1.1.1)), (wrap .i64 (x14 + 1)), ()))
   else none
  else
   some (.inl ((x0, x1, ()), (x2, x3, x4, x5, ()), (x6, x7, ()), (x8, x9, ()), x10, x11, x12, x13, (wrap .i64 (x14 + 1)), ()))
  else none
 else
  some (.inr ((x0, x1, ()), (x2, x3, x4, x5, ()), (x6, x7, ()), (x8, x9, ()), x10, x11, x13, ()))
def gbx_58618F (x : (Y11 × (List (Int × Bool) × List Y1 × List (Int × Bool × Bool × List (Int × Int)) × List Y13 × Unit) × Y8 × Y8 × Int × Nat × Int × Int × Int × Unit)) := gbx_58618r x.1.1 x.1.2.1 x.2.1.1 x.2.1.2.1 x.2.1.2.2.1 x.2.1.2.2.2.1 x.2.2.1.1 x.2.2.1.2.1 x.2.2.2.1.1 x.2.2.2.1.2.1 x.2.2.2.2.1 x.2.2.2.2.2.1 x.2.2.2.2.2.2.1 x.2.2.2.2.2.2.2.1 x.2.2.2.2.2.2.2.2.1
def gbx_58618 (x0 : List Int) (x1 : Int) (x2 : List (Int × Bool)) (x3 : List Y1) (x4 : List (Int × Bool × Bool × List (Int × Int))) (x5 : List Y13) (x6 x7 x8 x9 : List Int) (x10 : Int) (x11 : Nat) (x12 x13 x14 : Int) := loopL gbx_58618F ((x0, x1, ()), (x2, x3, x4, x5, ()), (x6, x7, ()), (x8, x9, ()), x10, x11, x12, x13, x14, ())
def gbx_14r (x0 : List Int) (x1 : Int) (x2 : List (Int × Bool)) (x3 : List Y1) (x4 : List (Int × Bool × Bool × List (Int × Int))) (x5 : List Y13) (x6 x7 x8 x9 : List Int) (x10 : Int) : Option ((Y11 × (List (Int × Bool) × List Y1 × List (Int × Bool × Bool × List (Int × Int)) × List Y13 × Unit) × Y8 × Y8 × Int × Unit) ⊕ (Y11 × (List (Int × Bool) × List Y1 × List (Int × Bool × Bool × List (Int × Int)) × List Y13 × Unit) × Unit)) :=
 bif decide (x10 < (x3.length : Int)) then
  bif (decide (0 ≤ x10) && decide (x10 < (x3.length : Int))) then
  (idx x9 x10).bind fun v6 =>
  (x3[x10.toNat]?).bind fun v7 =>
  (x3[x10.toNat]?).bind fun v8 =>
  (x3[x10.toNat]?).bind fun v9 =>
  (gbk x0 x1 (wrap .i64 ((wrap .i64 (v8.2.2.2.2.2.2.2.1 - v9.2.2.2.2.2.2.1)) + 1))).bind fun y2 =>
  (gbx_14650 y2.2.1.1 y2.2.1.2.1 x2 x3 x4 x5 x6 x7 x8 x9 x10 x10.toNat v6 (wrap .i64 (v7.2.2.2.2.2.2.1 + y2.1)) 0).bind fun z0 =>
  (z0.2.1.2.1[z0.2.2.2.2.2.1]?).bind fun v10 =>
  (idx z0.2.2.2.1.1 v10.1).bind fun v11 =>
  (z0.2.1.2.1[z0.2.2.2.2.2.1]?).bind fun v12 =>
  (idx z0.2.2.2.1.1 v12.2.1).bind fun v13 =>
  (gbx_58618 z0.1.1 z0.1.2.1 z0.2.1.1 z0.2.1.2.1 z0.2.1.2.2.1 z0.2.1.2.2.2.1 z0.2.2.1.1 z0.2.2.1.2.1 z0.2.2.2.1.1 z0.2.2.2.1.2.1 z0.2.2.2.2.1 z0.2.2.2.2.2.1 z0.2.2.2.2.2.2.1 (wrap .i64 ((wrap .i64 ((wrap .i64 (z0.2.2.2.2.2.2.2.1 * (bif decide ((wrap .i64 (0 - z0.2.2.2.2.2.2.1)) > z0.2.2.2.2.2.2.1) then (wrap .i64 (0 - z0.2.2.2.2.2.2.1)) else z0.2.2.2.2.2.2.1))) * z0.2.2.2.2.2.2.1)) - (wrap .i64 (v11 - v13)))) 0).bind fun z1 =>
  (gbk z1.1.1 z1.1.2.1 30).bind fun y3 =>
  (gbk y3.2.1.1 y3.2.1.2.1 30).bind fun y4 =>
  (z1.2.1.2.1[z1.2.2.2.2.2.1]?).bind fun v14 =>
  some (.inl (y4.2.1, (z1.2.1.1, (z1.2.1.2.1).set z1.2.2.2.2.2.1 (v14.1, v14.2.1, v14.2.2.1, v14.2.2.2.1, v14.2.2.2.2.1, v14.2.2.2.2.2.1, v14.2.2.2.2.2.2.1, v14.2.2.2.2.2.2.2.1, (wrap .i64 (z1.2.2.2.2.2.2.1 - y3.1)), (wrap .i64 (z1.2.2.2.2.2.2.1 + y4.1))), z1.2.1.2.2.1, z1.2.1.2.2.2.1, ()), z1.2.2.1, z1.2.2.2.1, (wrap .i64 (z1.2.2.2.2.1 + 1)), ()))
  else none
 else
  some (.inr ((x0, x1, ()), (x2, x3, x4, x5, ()), ()))
def gbx_14F (x : (Y11 × (List (Int × Bool) × List Y1 × List (Int × Bool × Bool × List (Int × Int)) × List Y13 × Unit) × Y8 × Y8 × Int × Unit)) := gbx_14r x.1.1 x.1.2.1 x.2.1.1 x.2.1.2.1 x.2.1.2.2.1 x.2.1.2.2.2.1 x.2.2.1.1 x.2.2.1.2.1 x.2.2.2.1.1 x.2.2.2.1.2.1 x.2.2.2.2.1
def gbx_14 (x0 : List Int) (x1 : Int) (x2 : List (Int × Bool)) (x3 : List Y1) (x4 : List (Int × Bool × Bool × List (Int × Int))) (x5 : List Y13) (x6 x7 x8 x9 : List Int) (x10 : Int) := loopL gbx_14F ((x0, x1, ()), (x2, x3, x4, x5, ()), (x6, x7, ()), (x8, x9, ()), x10, ())
def gbx (x0 : List Int) (x1 : Int) (x2 : List (Int × Bool)) (x3 : List Y1) (x4 : List (Int × Bool × Bool × List (Int × Int))) (x5 : List Y13) (x6 x7 x8 x9 : List Int) : Option ((Unit) × (Y11 × (List (Int × Bool) × List Y1 × List (Int × Bool × Bool × List (Int × Int)) × List Y13 × Unit) × Unit)) :=
 (gbx_14 x0 x1 x2 x3 x4 x5 x6 x7 x8 x9 0).bind fun z2 =>
 some ((), z2)
def gby_3731 (x0 : List Int) (x1 : Int) (x2 x3 x4 x5 x6 x7 : List Int) (x8 x9 : Int) : Option Y23 :=
 bif decide ((x6.length + 1) * 8 ≤ 140737488355328) then
 some ((x0, x1, ()), (x2, x3, ()), (x4, x5, ()), ((x6 ++ ([x9] : List Int)), x7, ()), x8, ())
 else none
def gby_58r (x0 : List Int) (x1 : Int) (x2 x3 x4 x5 x6 x7 : List Int) (x8 : Int) : Option (Y23 ⊕ (Y11 × Y8 × Y8 × Y8 × Unit)) :=
 bif decide (x8 < (x2.length : Int)) then
  (idx x2 x8).bind fun v0 =>
  (gbl x0 x1 5).bind fun y0 =>
  bif y0.1 then
   (gby_3731 y0.2.1.1 y0.2.1.2.1 x2 x3 x4 x5 x6 x7 x8 (-1)).bind fun z0 =>
   some (.inl (z0.1, z0.2.1, z0.2.2.1, z0.2.2.2.1, (wrap .i64 (z0.2.2.2.2.1 + 1)), ()))
  else
   (gby_3731 y0.2.1.1 y0.2.1.2.1 x2 x3 x4 x5 x6 x7 x8 v0).bind fun z1 =>
   some (.inl (z1.1, z1.2.1, z1.2.2.1, z1.2.2.2.1, (wrap .i64 (z1.2.2.2.2.1 + 1)), ()))
 else
  some (.inr ((x0, x1, ()), (x2, x3, ()), (x4, x5, ()), (x6, x7, ()), ()))
def gby_58F (x : Y23) := gby_58r x.1.1 x.1.2.1 x.2.1.1 x.2.1.2.1 x.2.2.1.1 x.2.2.1.2.1 x.2.2.2.1.1 x.2.2.2.1.2.1 x.2.2.2.2.1
def gby_58 (x0 : List Int) (x1 : Int) (x2 x3 x4 x5 x6 x7 : List Int) (x8 : Int) := loopL gby_58F ((x0, x1, ()), (x2, x3, ()), (x4, x5, ()), (x6, x7, ()), x8, ())
def gby_7827 (x0 : List Int) (x1 : Int) (x2 x3 x4 x5 x6 x7 : List Int) (x8 x9 : Int) : Option Y23 :=
 bif decide ((x7.length + 1) * 8 ≤ 140737488355328) then
 some ((x0, x1, ()), (x2, x3, ()), (x4, x5, ()), (x6, (x7 ++ ([x9] : List Int)), ()), x8, ())
 else none
def gby_122r (x0 : List Int) (x1 : Int) (x2 x3 x4 x5 x6 x7 : List Int) (x8 : Int) : Option (Y23 ⊕ (Y11 × Y8 × Y8 × Unit)) :=
 bif decide (x8 < (x3.length : Int)) then
  (idx x3 x8).bind fun v1 =>
  (gbl x0 x1 5).bind fun y1 =>
  bif y1.1 then
   (gby_7827 y1.2.1.1 y1.2.1.2.1 x2 x3 x4 x5 x6 x7 x8 (-1)).bind fun z2 =>
   some (.inl (z2.1, z2.2.1, z2.2.2.1, z2.2.2.2.1, (wrap .i64 (z2.2.2.2.2.1 + 1)), ()))
  else
   (gby_7827 y1.2.1.1 y1.2.1.2.1 x2 x3 x4 x5 x6 x7 x8 v1).bind fun z3 =>
   some (.inl (z3.1, z3.2.1, z3.2.2.1, z3.2.2.2.1, (wrap .i64 (z3.2.2.2.2.1 + 1)), ()))
 else
  some (.inr ((x0, x1, ()), (x4, x5, ()), (x6, x7, ()), ()))
def gby_122F (x : Y23) := gby_122r x.1.1 x.1.2.1 x.2.1.1 x.2.1.2.1 x.2.2.1.1 x.2.2.1.2.1 x.2.2.2.1.1 x.2.2.2.1.2.1 x.2.2.2.2.1
def gby_122 (x0 : List Int) (x1 : Int) (x2 x3 x4 x5 x6 x7 : List Int) (x8 : Int) := loopL gby_122F ((x0, x1, ()), (x2, x3, ()), (x4, x5, ()), (x6, x7, ()), x8, ())
def gby (x0 : List Int) (x1 : Int) (x2 : List (Int × Bool)) (x3 : List Y1) (x4 : List (Int × Bool × Bool × List (Int × Int))) (x5 : List Y13) (x6 x7 : List Int) : Option (Y8 × (Y11 × Unit)) :=
 (gby_58 x0 x1 x6 x7 ([] : List Int) ([] : List Int) ([] : List Int) ([] : List Int) 0).bind fun z4 =>
 (gby_122 z4.1.1 z4.1.2.1 z4.2.1.1 z4.2.1.2.1 z4.2.2.1.1 z4.2.2.1.2.1 z4.2.2.2.1.1 z4.2.2.2.1.2.1 0).bind fun z5 =>
 some (z5.2.2.1, (z5.1, ()))
def gbz_250r (x0 : List Int) (x1 : Int) (x2 : List (Int × Bool)) (x3 : List Y1) (x4 : List (Int × Bool × Bool × List (Int × Int))) (x5 : List Y13) (x6 x7 x8 x9 : List Int) (x10 : List (Int × Bool)) (x11 : List Y1) (x12 : List (Int × Bool × Bool × List (Int × Int))) (x13 : List Y13) (x14 x15 : Int) : Option ((Y11 × (List (Int × Bool) × List Y1 × List (Int × Bool × Bool × List (Int × Int)) × List Y13 × Unit) × Y8 × Y8 × (List (Int × Bool) × List Y1 × List (Int × Bool × Bool × List (Int × Int)) × List Y13 × Unit) × Int × Int × Unit) ⊕ (Y11 × (List (Int × Bool) × List Y1 × List (Int × Bool × Bool × List (Int × Int)) × List Y13 × Unit) × Y8 × Y8 × (List (Int × Bool) × List Y1 × List (Int × Bool × Bool × List (Int × Int)) × List Y13 × Unit) × Int × Unit)) :=
 bif decide (x15 > 0) then
  (gbk x0 x1 100).bind fun y0 =>
  bif decide ((x10.length + 1) * 16 ≤ 140737488355328) then
  some (.inl (y0.2.1, (x2, x3, x4, x5, ()), (x6, x7, ()), (x8, x9, ()), ((x10 ++ ([((wrap .i64 (0 - y0.1)), false)] : List (Int × Bool))), x11, x12, x13, ()), x14, (wrap .i64 (x15 - 1)), ()))
  else none
 else
  some (.inr ((x0, x1, ()), (x2, x3, x4, x5, ()), (x6, x7, ()), (x8, x9, ()), (x10, x11, x12, x13, ()), x14, ()))
def gbz_250F (x : (Y11 × (List (Int × Bool) × List Y1 × List (Int × Bool × Bool × List (Int × Int)) × List Y13 × Unit) × Y8 × Y8 × (List (Int × Bool) × List Y1 × List (Int × Bool × Bool × List (Int × Int)) × List Y13 × Unit) × Int × Int × Unit)) := gbz_250r x.1.1 x.1.2.1 x.2.1.1 x.2.1.2.1 x.2.1.2.2.1 x.2.1.2.2.2.1 x.2.2.1.1 x.2.2.1.2.1 x.2.2.2.1.1 x.2.2.2.1.2.1 x.2.2.2.2.1.1 x.2.2.2.2.1.2.1 x.2.2.2.2.1.2.2.1 x.2.2.2.2.1.2.2.2.1 x.2.2.2.2.2.1 x.2.2.2.2.2.2.1
def gbz_250 (x0 : List Int) (x1 : Int) (x2 : List (Int × Bool)) (x3 : List Y1) (x4 : List (Int × Bool × Bool × List (Int × Int))) (x5 : List Y13) (x6 x7 x8 x9 : List Int) (x10 : List (Int × Bool)) (x11 : List Y1) (x12 : List (Int × Bool × Bool × List (Int × Int))) (x13 : List Y13) (x14 x15 : Int) := loopL gbz_250F ((x0, x1, ()), (x2, x3, x4, x5, ()), (x6, x7, ()), (x8, x9, ()), (x10, x11, x12, x13, ()), x14, x15, ())
def gbz_2042r (x0 : List Int) (x1 : Int) (x2 : List (Int × Bool)) (x3 : List Y1) (x4 : List (Int × Bool × Bool × List (Int × Int))) (x5 : List Y13) (x6 x7 x8 x9 : List Int) (x10 : List (Int × Bool)) (x11 : List Y1) (x12 : List (Int × Bool × Bool × List (Int × Int))) (x13 : List Y13) (x14 x15 : Int) (x16 x17 : List Int) (x18 : Int) : Option ((Y11 × (List (Int × Bool) × List Y1 × List (Int × Bool × Bool × List (Int × Int)) × List Y13 × Unit) × Y8 × Y8 × (List (Int × Bool) × List Y1 × List (Int × Bool × Bool × List (Int × Int)) × List Y13 × Unit) × Int × Int × Y8 × Int × Unit) ⊕ (Y11 × (List (Int × Bool) × List Y1 × List (Int × Bool × Bool × List (Int × Int)) × List Y13 × Unit) × Y8 × Y8 × (List (Int × Bool) × List Y1 × List (Int × Bool × Bool × List (Int × Int)) × List Y13 × Unit) × Int × Int × Y8 × Unit)) :=
 bif decide (x18 < x15) then
  (gbm x0 x1 (-4000) 4000).bind fun y1 =>
  bif (decide (0 ≤ x18) && decide (x18 < (x16.length : Int))) then
  (x16[x18.toNat]?).bind fun v0 =>
  some (.inl (y1.2.1, (x2, x3, x4, x5, ()), (x6, x7, ()), (x8, x9, ()), (x10, x11, x12, x13, ()), x14, x15, ((x16).set x18.toNat y1.1, x17, ()), (wrap .i64 (x18 + 1)), ()))
  else none
 else
  some (.inr ((x0, x1, ()), (x2, x3, x4, x5, ()), (x6, x7, ()), (x8, x9, ()), (x10, x11, x12, x13, ()), x14, x15, (x16, x17, ()), ()))
def gbz_2042F (x : (Y11 × (List (Int × Bool) × List Y1 × List (Int × Bool × Bool × List (Int × Int)) × List Y13 × Unit) × Y8 × Y8 × (List (Int × Bool) × List Y1 × List (Int × Bool × Bool × List (Int × Int)) × List Y13 × Unit) × Int × Int × Y8 × Int × Unit)) := gbz_2042r x.1.1 x.1.2.1 x.2.1.1 x.2.1.2.1 x.2.1.2.2.1 x.2.1.2.2.2.1 x.2.2.1.1 x.2.2.1.2.1 x.2.2.2.1.1 x.2.2.2.1.2.1 x.2.2.2.2.1.1 x.2.2.2.2.1.2.1 x.2.2.2.2.1.2.2.1 x.2.2.2.2.1.2.2.2.1 x.2.2.2.2.2.1 x.2.2.2.2.2.2.1 x.2.2.2.2.2.2.2.1.1 x.2.2.2.2.2.2.2.1.2.1 x.2.2.2.2.2.2.2.2.1
def gbz_2042 (x0 : List Int) (x1 : Int) (x2 : List (Int × Bool)) (x3 : List Y1) (x4 : List (Int × Bool × Bool × List (Int × Int))) (x5 : List Y13) (x6 x7 x8 x9 : List Int) (x10 : List (Int × Bool)) (x11 : List Y1) (x12 : List (Int × Bool × Bool × List (Int × Int))) (x13 : List Y13) (x14 x15 : Int) (x16 x17 : List Int) (x18 : Int) := loopL gbz_2042F ((x0, x1, ()), (x2, x3, x4, x5, ()), (x6, x7, ()), (x8, x9, ()), (x10, x11, x12, x13, ()), x14, x15, (x16, x17, ()), x18, ())
def gbz_16766111 (x0 : List Int) (x1 : Int) (x2 : List (Int × Bool)) (x3 : List Y1) (x4 : List (Int × Bool × Bool × List (Int × Int))) (x5 : List Y13) (x6 x7 x8 x9 : List Int) (x10 : List (Int × Bool)) (x11 : List Y1) (x12 : List (Int × Bool × Bool × List (Int × Int))) (x13 : List Y13) (x14 x15 : Int) (x16 x17 x18 : List Int) (x19 x20 x21 x22 x23 : Int) (x24 x25 : Bool) (x26 x27 x28 x29 x30 : Int) : Option (Y11 × (List (Int × Bool) × List Y1 × List (Int × Bool × Bool × List (Int × Int)) × List Y13 × Unit) × Y8 × Y8 × (List (Int × Bool) × List Y1 × List (Int × Bool × Bool × List (Int × Int)) × List Y13 × Unit) × Int × Int × Y8 × List Int × Int × Unit) :=
 bif decide ((x11.length + 1) * 72 ≤ 140737488355328) then
 bif decide ((x17.length + 1) * 8 ≤ 140737488355328) then
 bif (decide (0 ≤ x20) && decide (x20 < (x18.length : Int))) then
 (x18[x20.toNat]?).bind fun v1 =>
 bif (decide (0 ≤ x20) && decide (x20 < (x18.length : Int))) then
 (x18[x20.toNat]?).bind fun v2 =>
 bif (decide (0 ≤ x21) && decide (x21 < (((x18).set x20.toNat (wrap .i64 (v1 + x30))).length : Int))) then
 (((x18).set x20.toNat (wrap .i64 (v1 + x30)))[x21.toNat]?).bind fun v3 =>
 bif (decide (0 ≤ x21) && decide (x21 < (((x18).set x20.toNat (wrap .i64 (v1 + x30))).length : Int))) then
 (((x18).set x20.toNat (wrap .i64 (v1 + x30)))[x21.toNat]?).bind fun v4 =>
 some ((x0, x1, ()), (x2, x3, x4, x5, ()), (x6, x7, ()), (x8, x9, ()), (x10, (x11 ++ ([(x20, x21, x22, x23, x24, x25, x26, x27, x28, x29)] : List Y1)), x12, x13, ()), x14, x15, (x16, (x17 ++ ([x30] : List Int)), ()), ((x18).set x20.toNat (wrap .i64 (v1 + x30))).set x21.toNat (wrap .i64 (v3 - x30)), x19, ())
 else none
 else none
 else none
 else none
 else none
 else none
def gbz_32746r (x0 : List Int) (x1 : Int) (x2 : List (Int × Bool)) (x3 : List Y1) (x4 : List (Int × Bool × Bool × List (Int × Int))) (x5 : List Y13) (x6 x7 x8 x9 : List Int) (x10 : List (Int × Bool)) (x11 : List Y1) (x12 : List (Int × Bool × Bool × List (Int × Int))) (x13 : List Y13) (x14 x15 : Int) (x16 x17 x18 : List Int) (x19 : Int) : Option ((Y11 × (List (Int × Bool) × List Y1 × List (Int × Bool × Bool × List (Int × Int)) × List Y13 × Unit) × Y8 × Y8 × (List (Int × Bool) × List Y1 × List (Int × Bool × Bool × List (Int × Int)) × List Y13 × Unit) × Int × Int × Y8 × List Int × Int × Unit) ⊕ (Y11 × (List (Int × Bool) × List Y1 × List (Int × Bool × Bool × List (Int × Int)) × List Y13 × Unit) × Y8 × Y8 × (List (Int × Bool) × List Y1 × List (Int × Bool × Bool × List (Int × Int)) × List Y13 × Unit) × Int × Int × Y8 × List Int × Unit)) :=
 bif decide (x19 > 0) then
  (gbk x0 x1 x15).bind fun y2 =>
  (gbk y2.2.1.1 y2.2.1.2.1 (wrap .i64 (x15 - 1))).bind fun y3 =>
  bif (!decide (x15 = 0)) then
  (gbn y3.2.1.1 y3.2.1.2.1 y2.1 (Int.tmod (wrap .i64 ((wrap .i64 (y2.1 + 1)) + y3.1)) x15)).bind fun y4 =>
  (gbl y4.2.1.1 y4.2.1.2.1 7).bind fun y5 =>
  (gbm y5.2.1.1 y5.2.1.2.1 (-60) 60).bind fun y6 =>
  bif y5.1 then
   (gbz_16766111 y6.2.1.1 y6.2.1.2.1 x2 x3 x4 x5 x6 x7 x8 x9 x10 x11 x12 x13 x14 x15 x16 x17 x18 x19 y4.1.1 y4.1.2.1 y4.1.2.2.1 y4.1.2.2.2.1 y4.1.2.2.2.2.1 y5.1 y4.1.2.2.2.2.2.2.1 y4.1.2.2.2.2.2.2.2.1 y4.1.2.2.2.2.2.2.2.2.1 y4.1.2.2.2.2.2.2.2.2.2.1 0).bind fun z0 =>
   some (.inl (z0.1, z0.2.1, z0.2.2.1, z0.2.2.2.1, z0.2.2.2.2.1, z0.2.2.2.2.2.1, z0.2.2.2.2.2.2.1, z0.2.2.2.2.2.2.2.1, z0.2.2.2.2.2.2.2.2.1, (wrap .i64 (z0.2.2.2.2.2.2.2.2.2.1 - 1)), ()))
  else
   (gbz_16766111 y6.2.1.1 y6.2.1.2.1 x2 x3 x4 x5 x6 x7 x8 x9 x10 x11 x12 x13 x14 x15 x16 x17 x18 x19 y4.1.1 y4.1.2.1 y4.1.2.2.1 y4.1.2.2.2.1 y4.1.2.2.2.2.1 y5.1 y4.1.2.2.2.2.2.2.1 y4.1.2.2.2.2.2.2.2.1 y4.1.2.2.2.2.2.2.2.2.1 y4.1.2.2.2.2.2.2.2.2.2.1 y6.1).bind fun z1 =>
   some (.inl (z1.1, z1.2.1, z1.2.2.1, z1.2.2.2.1, z1.2.2.2.2.1, z1.2.2.2.2.2.1, z1.2.2.2.2.2.2.1, z1.2.2.2.2.2.2.2.1, z1.2.2.2.2.2.2.2.2.1, (wrap .i64 (z1.2.2.2.2.2.2.2.2.2.1 - 1)), ()))
  else none
 else
  some (.inr ((x0, x1, ()), (x2, x3, x4, x5, ()), (x6, x7, ()), (x8, x9, ()), (x10, x11, x12, x13, ()), x14, x15, (x16, x17, ()), x18, ()))
def gbz_32746F (x : (Y11 × (List (Int × Bool) × List Y1 × List (Int × Bool × Bool × List (Int × Int)) × List Y13 × Unit) × Y8 × Y8 × (List (Int × Bool) × List Y1 × List (Int × Bool × Bool × List (Int × Int)) × List Y13 × Unit) × Int × Int × Y8 × List Int × Int × Unit)) := gbz_32746r x.1.1 x.1.2.1 x.2.1.1 x.2.1.2.1 x.2.1.2.2.1 x.2.1.2.2.2.1 x.2.2.1.1 x.2.2.1.2.1 x.2.2.2.1.1 x.2.2.2.1.2.1 x.2.2.2.2.1.1 x.2.2.2.2.1.2.1 x.2.2.2.2.1.2.2.1 x.2.2.2.2.1.2.2.2.1 x.2.2.2.2.2.1 x.2.2.2.2.2.2.1 x.2.2.2.2.2.2.2.1.1 x.2.2.2.2.2.2.2.1.2.1 x.2.2.2.2.2.2.2.2.1 x.2.2.2.2.2.2.2.2.2.1
def gbz_32746 (x0 : List Int) (x1 : Int) (x2 : List (Int × Bool)) (x3 : List Y1) (x4 : List (Int × Bool × Bool × List (Int × Int))) (x5 : List Y13) (x6 x7 x8 x9 : List Int) (x10 : List (Int × Bool)) (x11 : List Y1) (x12 : List (Int × Bool × Bool × List (Int × Int))) (x13 : List Y13) (x14 x15 : Int) (x16 x17 x18 : List Int) (x19 : Int) := loopL gbz_32746F ((x0, x1, ()), (x2, x3, x4, x5, ()), (x6, x7, ()), (x8, x9, ()), (x10, x11, x12, x13, ()), x14, x15, (x16, x17, ()), x18, x19, ())
def gbz_1048211 (x0 : List Int) (x1 : Int) (x2 : List (Int × Bool)) (x3 : List Y1) (x4 : List (Int × Bool × Bool × List (Int × Int))) (x5 : List Y13) (x6 x7 x8 x9 : List Int) (x10 : List (Int × Bool)) (x11 : List Y1) (x12 : List (Int × Bool × Bool × List (Int × Int))) (x13 : List Y13) (x14 x15 : Int) (x16 x17 x18 : List Int) (x19 x20 x21 x22 x23 : Int) (x24 x25 : Bool) (x26 x27 x28 x29 x30 : Int) : Option (Y11 × (List (Int × Bool) × List Y1 × List (Int × Bool × Bool × List (Int × Int)) × List Y13 × Unit) × Y8 × Y8 × (List (Int × Bool) × List Y1 × List (Int × Bool × Bool × List (Int × Int)) × List Y13 × Unit) × Int × Int × Y8 × List Int × Int × Unit) :=
 bif decide ((x11.length + 1) * 72 ≤ 140737488355328) then
 bif decide ((x17.length + 1) * 8 ≤ 140737488355328) then
 some ((x0, x1, ()), (x2, x3, x4, x5, ()), (x6, x7, ()), (x8, x9, ()), (x10, (x11 ++ ([(x20, x21, x22, x23, x24, x25, x26, x27, x28, x29)] : List Y1)), x12, x13, ()), x14, x15, (x16, (x17 ++ ([x30] : List Int)), ()), x18, x19, ())
 else none
 else none
def gbz_16378r (x0 : List Int) (x1 : Int) (x2 : List (Int × Bool)) (x3 : List Y1) (x4 : List (Int × Bool × Bool × List (Int × Int))) (x5 : List Y13) (x6 x7 x8 x9 : List Int) (x10 : List (Int × Bool)) (x11 : List Y1) (x12 : List (Int × Bool × Bool × List (Int × Int))) (x13 : List Y13) (x14 x15 : Int) (x16 x17 x18 : List Int) (x19 : Int) : Option ((Y11 × (List (Int × Bool) × List Y1 × List (Int × Bool × Bool × List (Int × Int)) × List Y13 × Unit) × Y8 × Y8 × (List (Int × Bool) × List Y1 × List (Int × Bool × Bool × List (Int × Int)) × List Y13 × Unit) × Int × Int × Y8 × List Int × Int × Unit) ⊕ (Y11 × (List (Int × Bool) × List Y1 × List (Int × Bool × Bool × List (Int × Int)) × List Y13 × Unit) × Y8 × Y8 × (List (Int × Bool) × List Y1 × List (Int × Bool × Bool × List (Int × Int)) × List Y13 × Unit) × Y8 × Unit)) :=
 bif decide (x19 < x15) then
  (gbk x0 x1 x14).bind fun y7 =>
  (gbn y7.2.1.1 y7.2.1.2.1 x19 y7.1).bind fun y8 =>
  bif (decide (0 ≤ x19) && decide (x19 < (x18.length : Int))) then
  (x18[x19.toNat]?).bind fun v5 =>
  (gbl y8.2.1.1 y8.2.1.2.1 2).bind fun y9 =>
  bif y9.1 then
   (gbz_1048211 y9.2.1.1 y9.2.1.2.1 x2 x3 x4 x5 x6 x7 x8 x9 x10 x11 x12 x13 x14 x15 x16 x17 x18 x19 y8.1.2.1 y8.1.1 y8.1.2.2.1 y8.1.2.2.2.1 y8.1.2.2.2.2.1 y8.1.2.2.2.2.2.1 y8.1.2.2.2.2.2.2.1 y8.1.2.2.2.2.2.2.2.1 y8.1.2.2.2.2.2.2.2.2.1 y8.1.2.2.2.2.2.2.2.2.2.1 (wrap .i64 (0 - (wrap .i64 (0 - v5))))).bind fun z2 =>
   some (.inl (z2.1, z2.2.1, z2.2.2.1, z2.2.2.2.1, z2.2.2.2.2.1, z2.2.2.2.2.2.1, z2.2.2.2.2.2.2.1, z2.2.2.2.2.2.2.2.1, z2.2.2.2.2.2.2.2.2.1, (wrap .i64 (z2.2.2.2.2.2.2.2.2.2.1 + 1)), ()))
  else
   (gbz_1048211 y9.2.1.1 y9.2.1.2.1 x2 x3 x4 x5 x6 x7 x8 x9 x10 x11 x12 x13 x14 x15 x16 x17 x18 x19 y8.1.1 y8.1.2.1 y8.1.2.2.1 y8.1.2.2.2.1 y8.1.2.2.2.2.1 y8.1.2.2.2.2.2.1 y8.1.2.2.2.2.2.2.1 y8.1.2.2.2.2.2.2.2.1 y8.1.2.2.2.2.2.2.2.2.1 y8.1.2.2.2.2.2.2.2.2.2.1 (wrap .i64 (0 - v5))).bind fun z3 =>
   some (.inl (z3.1, z3.2.1, z3.2.2.1, z3.2.2.2.1, z3.2.2.2.2.1, z3.2.2.2.2.2.1, z3.2.2.2.2.2.2.1, z3.2.2.2.2.2.2.2.1, z3.2.2.2.2.2.2.2.2.1, (wrap .i64 (z3.2.2.2.2.2.2.2.2.2.1 + 1)), ()))
  else none
 else
  some (.inr ((x0, x1, ()), (x2, x3, x4, x5, ()), (x6, x7, ()), (x8, x9, ()), (x10, x11, x12, x13, ()), (x16, x17, ()), ()))
def gbz_16378F (x : (Y11 × (List (Int × Bool) × List Y1 × List (Int × Bool × Bool × List (Int × Int)) × List Y13 × Unit) × Y8 × Y8 × (List (Int × Bool) × List Y1 × List (Int × Bool × Bool × List (Int × Int)) × List Y13 × Unit) × Int × Int × Y8 × List Int × Int × Unit)) := gbz_16378r x.1.1 x.1.2.1 x.2.1.1 x.2.1.2.1 x.2.1.2.2.1 x.2.1.2.2.2.1 x.2.2.1.1 x.2.2.1.2.1 x.2.2.2.1.1 x.2.2.2.1.2.1 x.2.2.2.2.1.1 x.2.2.2.2.1.2.1 x.2.2.2.2.1.2.2.1 x.2.2.2.2.1.2.2.2.1 x.2.2.2.2.2.1 x.2.2.2.2.2.2.1 x.2.2.2.2.2.2.2.1.1 x.2.2.2.2.2.2.2.1.2.1 x.2.2.2.2.2.2.2.2.1 x.2.2.2.2.2.2.2.2.2.1
def gbz_16378 (x0 : List Int) (x1 : Int) (x2 : List (Int × Bool)) (x3 : List Y1) (x4 : List (Int × Bool × Bool × List (Int × Int))) (x5 : List Y13) (x6 x7 x8 x9 : List Int) (x10 : List (Int × Bool)) (x11 : List Y1) (x12 : List (Int × Bool × Bool × List (Int × Int))) (x13 : List Y13) (x14 x15 : Int) (x16 x17 x18 : List Int) (x19 : Int) := loopL gbz_16378F ((x0, x1, ()), (x2, x3, x4, x5, ()), (x6, x7, ()), (x8, x9, ()), (x10, x11, x12, x13, ()), x14, x15, (x16, x17, ()), x18, x19, ())
def gbz_2047 (x0 : List Int) (x1 : Int) (x2 : List (Int × Bool)) (x3 : List Y1) (x4 : List (Int × Bool × Bool × List (Int × Int))) (x5 : List Y13) (x6 x7 x8 x9 : List Int) (x10 : List (Int × Bool)) (x11 : List Y1) (x12 : List (Int × Bool × Bool × List (Int × Int))) (x13 : List Y13) (x14 x15 : Int) (x16 x17 x18 : List Int) : Option (Y11 × (List (Int × Bool) × List Y1 × List (Int × Bool × Bool × List (Int × Int)) × List Y13 × Unit) × Y8 × Y8 × Unit) :=
 (gbz_16378 x0 x1 x2 x3 x4 x5 x6 x7 x8 x9 x10 x11 x12 x13 x14 x15 x16 x17 x18 x14).bind fun z4 =>
 (gbq z4.1.1 z4.1.2.1 z4.2.2.2.2.1.1 z4.2.2.2.2.1.2.1 z4.2.2.2.2.1.2.2.1 z4.2.2.2.2.1.2.2.2.1).bind fun y10 =>
 (gbx y10.2.1.1 y10.2.1.2.1 y10.2.2.1.1 y10.2.2.1.2.1 y10.2.2.1.2.2.1 y10.2.2.1.2.2.2.1 y10.1.1 y10.1.2.1 z4.2.2.2.2.2.1.1 z4.2.2.2.2.2.1.2.1).bind fun y11 =>
 (gby y11.2.1.1 y11.2.1.2.1 y11.2.2.1.1 y11.2.2.1.2.1 y11.2.2.1.2.2.1 y11.2.2.1.2.2.2.1 y10.1.1 y10.1.2.1).bind fun y12 =>
 some (y12.2.1, y11.2.2.1, y12.1, z4.2.2.2.2.2.1, ())
def gbz_15 (x0 : List Int) (x1 : Int) (x2 : List (Int × Bool)) (x3 : List Y1) (x4 : List (Int × Bool × Bool × List (Int × Int))) (x5 : List Y13) (x6 x7 x8 x9 : List Int) (x10 : List (Int × Bool)) (x11 : List Y1) (x12 : List (Int × Bool × Bool × List (Int × Int))) (x13 : List Y13) : Option (Y11 × (List (Int × Bool) × List Y1 × List (Int × Bool × Bool × List (Int × Int)) × List Y13 × Unit) × Y8 × Y8 × Unit) :=
 (gbk x0 x1 5).bind fun y13 =>
 (gbz_250 y13.2.1.1 y13.2.1.2.1 x2 x3 x4 x5 x6 x7 x8 x9 x10 x11 x12 x13 (x10.length : Int) y13.1).bind fun z5 =>
 bif (decide (0 ≤ (z5.2.2.2.2.1.1.length : Int)) && (decide ((z5.2.2.2.2.1.1.length : Int) ≤ (z5.2.2.2.2.1.1.length : Int)) && decide ((z5.2.2.2.2.1.1.length : Int) * ((8 : Nat) : Int) ≤ ((140737488355328 : Nat) : Int)))) then
 (gbz_2042 z5.1.1 z5.1.2.1 z5.2.1.1 z5.2.1.2.1 z5.2.1.2.2.1 z5.2.1.2.2.2.1 z5.2.2.1.1 z5.2.2.1.2.1 z5.2.2.2.1.1 z5.2.2.2.1.2.1 z5.2.2.2.2.1.1 z5.2.2.2.2.1.2.1 z5.2.2.2.2.1.2.2.1 z5.2.2.2.2.1.2.2.2.1 z5.2.2.2.2.2.1 (z5.2.2.2.2.1.1.length : Int) (List.replicate (z5.2.2.2.2.1.1.length : Int).toNat (0 : Int)) ([] : List Int) z5.2.2.2.2.2.1).bind fun z6 =>
 bif (decide (0 ≤ z6.2.2.2.2.2.2.1) && (decide (z6.2.2.2.2.2.2.1 ≤ z6.2.2.2.2.2.2.1) && decide (z6.2.2.2.2.2.2.1 * ((8 : Nat) : Int) ≤ ((140737488355328 : Nat) : Int)))) then
 bif decide (z6.2.2.2.2.2.2.1 > 1) then
  (gbk z6.1.1 z6.1.2.1 6).bind fun y14 =>
  (gbz_32746 y14.2.1.1 y14.2.1.2.1 z6.2.1.1 z6.2.1.2.1 z6.2.1.2.2.1 z6.2.1.2.2.2.1 z6.2.2.1.1 z6.2.2.1.2.1 z6.2.2.2.1.1 z6.2.2.2.1.2.1 z6.2.2.2.2.1.1 z6.2.2.2.2.1.2.1 z6.2.2.2.2.1.2.2.1 z6.2.2.2.2.1.2.2.2.1 z6.2.2.2.2.2.1 z6.2.2.2.2.2.2.1 z6.2.2.2.2.2.2.2.1.1 z6.2.2.2.2.2.2.2.1.2.1 (List.replicate z6.2.2.2.2.2.2.1.toNat (0 : Int)) y14.1).bind fun z7 =>
  (gbz_2047 z7.1.1 z7.1.2.1 z7.2.1.1 z7.2.1.2.1 z7.2.1.2.2.1 z7.2.1.2.2.2.1 z7.2.2.1.1 z7.2.2.1.2.1 z7.2.2.2.1.1 z7.2.2.2.1.2.1 z7.2.2.2.2.1.1 z7.2.2.2.2.1.2.1 z7.2.2.2.2.1.2.2.1 z7.2.2.2.2.1.2.2.2.1 z7.2.2.2.2.2.1 z7.2.2.2.2.2.2.1 z7.2.2.2.2.2.2.2.1.1 z7.2.2.2.2.2.2.2.1.2.1 z7.2.2.2.2.2.2.2.2.1).bind fun z8 =>
  some z8
 else
  (gbz_2047 z6.1.1 z6.1.2.1 z6.2.1.1 z6.2.1.2.1 z6.2.1.2.2.1 z6.2.1.2.2.2.1 z6.2.2.1.1 z6.2.2.1.2.1 z6.2.2.2.1.1 z6.2.2.2.1.2.1 z6.2.2.2.2.1.1 z6.2.2.2.2.1.2.1 z6.2.2.2.2.1.2.2.1 z6.2.2.2.2.1.2.2.2.1 z6.2.2.2.2.2.1 z6.2.2.2.2.2.2.1 z6.2.2.2.2.2.2.2.1.1 z6.2.2.2.2.2.2.2.1.2.1 (List.replicate z6.2.2.2.2.2.2.1.toNat (0 : Int))).bind fun z9 =>
  some z9
 else none
 else none
def gbz (x0 : List Int) (x1 : Int) : Option (((List (Int × Bool) × List Y1 × List (Int × Bool × Bool × List (Int × Int)) × List Y13 × Unit) × Y8 × Y8 × Unit) × (Y11 × Unit)) :=
 (gbl x0 x1 3).bind fun y15 =>
 bif y15.1 then
  (gbz_15 y15.2.1.1 y15.2.1.2.1 ([] : List (Int × Bool)) ([] : List Y1) ([] : List (Int × Bool × Bool × List (Int × Int))) ([] : List Y13) ([] : List Int) ([] : List Int) ([] : List Int) ([] : List Int) ([(0, true), (10, true)] : List (Int × Bool)) ([] : List Y1) ([] : List (Int × Bool × Bool × List (Int × Int))) ([] : List Y13)).bind fun z10 =>
  some (z10.2, (z10.1, ()))
 else
  (gbz_15 y15.2.1.1 y15.2.1.2.1 ([] : List (Int × Bool)) ([] : List Y1) ([] : List (Int × Bool × Bool × List (Int × Int))) ([] : List Y13) ([] : List Int) ([] : List Int) ([] : List Int) ([] : List Int) ([(0, true)] : List (Int × Bool)) ([] : List Y1) ([] : List (Int × Bool × Bool × List (Int × Int))) ([] : List Y13)).bind fun z11 =>
  some (z11.2, (z11.1, ()))
def gca (x0 : Int) : Option (Bool × Unit) :=
 some (decide (x0 ≥ 4), ())
def gcb (x0 : List Int) (x1 x2 x3 x4 : Int) : Option (Y2 × (Y11 × Unit)) :=
 (gbm x0 x1 1 200).bind fun y0 =>
 (gca x2).bind fun y1 =>
 bif (!y1.1) then
  (gbm y0.2.1.1 y0.2.1.2.1 (-50) 20).bind fun y2 =>
  (gbm y2.2.1.1 y2.2.1.2.1 300 2000).bind fun y3 =>
  (gbk y3.2.1.1 y3.2.1.2.1 6).bind fun y4 =>
  (gbk y4.2.1.1 y4.2.1.2.1 700).bind fun y5 =>
  some ((x3, x2, x4, y2.1, y3.1, y4.1, y5.1, y0.1, ()), y5.2)
 else
  some ((x3, x2, x4, 0, 1000, 0, 0, y0.1, ()), y0.2)
def gcc (x0 : List Int) (x1 : Int) : Option ((Int × Int × Int × Unit) × (Y11 × Unit)) :=
 (gbm x0 x1 1 120).bind fun y0 =>
 (gbk y0.2.1.1 y0.2.1.2.1 12).bind fun y1 =>
 (gbk y1.2.1.1 y1.2.1.2.1 y0.1).bind fun y2 =>
 some ((y0.1, y2.1, y1.1, ()), y2.2)
def gcd_466r (x0 : List Int) (x1 : Int) (x2 : List (Int × Bool)) (x3 : List Y1) (x4 : List (Int × Bool × Bool × List (Int × Int))) (x5 : List Y13) (x6 : List Y3) (x7 : List Y5) (x8 : List Y21) (x9 : List Int) (x10 x11 x12 x13 x14 x15 x16 x17 x18 x19 x20 x21 x22 : Int) : Option ((Y11 × (List (Int × Bool) × List Y1 × List (Int × Bool × Bool × List (Int × Int)) × List Y13 × List Y3 × List Y5 × List Y21 × List Int × Unit) × Y4 × Y4 × Int × Unit) ⊕ (Y26 ⊕ (Y11 × (List (Int × Bool) × List Y1 × List (Int × Bool × Bool × List (Int × Int)) × List Y13 × List Y3 × List Y5 × List Y21 × List Int × Unit) × Y4 × Y4 × Unit))) :=
 bif decide (x22 < (x6.length : Int)) then
  (idx x6 x22).bind fun v0 =>
  bif (v0.2.1 == 5) then
   some (.inr (.inl ((x0, x1, ()), (x16, x22, x18, x19, x20, x21, ()), ())))
  else
   some (.inl ((x0, x1, ()), (x2, x3, x4, x5, x6, x7, x8, x9, ()), (x10, x11, x12, x13, x14, x15, ()), (x16, x17, x18, x19, x20, x21, ()), (wrap .i64 (x22 + 1)), ()))
 else
  some (.inr (.inr ((x0, x1, ()), (x2, x3, x4, x5, x6, x7, x8, x9, ()), (x10, x11, x12, x13, x14, x15, ()), (x16, x17, x18, x19, x20, x21, ()), ())))
def gcd_466F (x : (Y11 × (List (Int × Bool) × List Y1 × List (Int × Bool × Bool × List (Int × Int)) × List Y13 × List Y3 × List Y5 × List Y21 × List Int × Unit) × Y4 × Y4 × Int × Unit)) := gcd_466r x.1.1 x.1.2.1 x.2.1.1 x.2.1.2.1 x.2.1.2.2.1 x.2.1.2.2.2.1 x.2.1.2.2.2.2.1 x.2.1.2.2.2.2.2.1 x.2.1.2.2.2.2.2.2.1 x.2.1.2.2.2.2.2.2.2.1 x.2.2.1.1 x.2.2.1.2.1 x.2.2.1.2.2.1 x.2.2.1.2.2.2.1 x.2.2.1.2.2.2.2.1 x.2.2.1.2.2.2.2.2.1 x.2.2.2.1.1 x.2.2.2.1.2.1 x.2.2.2.1.2.2.1 x.2.2.2.1.2.2.2.1 x.2.2.2.1.2.2.2.2.1 x.2.2.2.1.2.2.2.2.2.1 x.2.2.2.2.1
def gcd_466 (x0 : List Int) (x1 : Int) (x2 : List (Int × Bool)) (x3 : List Y1) (x4 : List (Int × Bool × Bool × List (Int × Int))) (x5 : List Y13) (x6 : List Y3) (x7 : List Y5) (x8 : List Y21) (x9 : List Int) (x10 x11 x12 x13 x14 x15 x16 x17 x18 x19 x20 x21 x22 : Int) := loopL gcd_466F ((x0, x1, ()), (x2, x3, x4, x5, x6, x7, x8, x9, ()), (x10, x11, x12, x13, x14, x15, ()), (x16, x17, x18, x19, x20, x21, ()), x22, ())
def gcd_127 (x0 : List Int) (x1 x2 x3 x4 x5 x6 x7 x8 x9 x10 x11 x12 x13 x14 : Int) : Option Y26 :=
 (gbk x0 x1 x14).bind fun y0 =>
 some (y0.2.1, (x8, y0.1, x10, x11, x12, x13, ()), ())
def gcd_63 (x0 : List Int) (x1 x2 x3 x4 x5 x6 x7 x8 x9 x10 x11 x12 x13 x14 : Int) : Option Y26 :=
 bif (x14 == 0) then
  (gcd_127 x0 x1 x2 x3 x4 x5 x6 x7 x8 x9 x10 x11 x12 x13 1).bind fun z0 =>
  some z0
 else
  (gcd_127 x0 x1 x2 x3 x4 x5 x6 x7 x8 x9 x10 x11 x12 x13 x14).bind fun z1 =>
  some z1
def gcd_15 (x0 : List Int) (x1 : Int) (x2 : List (Int × Bool)) (x3 : List Y1) (x4 : List (Int × Bool × Bool × List (Int × Int))) (x5 : List Y13) (x6 : List Y3) (x7 : List Y5) (x8 : List Y21) (x9 : List Int) (x10 x11 x12 x13 x14 x15 x16 x17 x18 x19 x20 x21 : Int) : Option Y26 :=
 bif (x16 == 5) then
  (gcd_63 x0 x1 x10 x11 x12 x13 x14 x15 x16 x17 x18 x19 x20 x21 (x3.length : Int)).bind fun z2 =>
  some z2
 else
  (gcd_63 x0 x1 x10 x11 x12 x13 x14 x15 x16 x17 x18 x19 x20 x21 (x6.length : Int)).bind fun z3 =>
  some z3
def gcd (x0 : List Int) (x1 : Int) (x2 : List (Int × Bool)) (x3 : List Y1) (x4 : List (Int × Bool × Bool × List (Int × Int))) (x5 : List Y13) (x6 : List Y3) (x7 : List Y5) (x8 : List Y21) (x9 : List Int) : Option (Y4 × (Y11 × Unit)) :=
 (gbm x0 x1 1 5).bind fun y1 =>
 (gbm y1.2.1.1 y1.2.1.2.1 0 60).bind fun y2 =>
 (gcc y2.2.1.1 y2.2.1.2.1).bind fun y3 =>
 bif (y1.1 == 3) then
  (gcd_466 y3.2.1.1 y3.2.1.2.1 x2 x3 x4 x5 x6 x7 x8 x9 0 0 0 0 0 0 y1.1 0 y2.1 y3.1.1 y3.1.2.1 y3.1.2.2.1 0).bind fun z4 =>
  sumElim z4 (fun z5 =>
   some (z5.2.1, (z5.1, ())))
   (fun z6 =>
   (gcd_15 z6.1.1 z6.1.2.1 z6.2.1.1 z6.2.1.2.1 z6.2.1.2.2.1 z6.2.1.2.2.2.1 z6.2.1.2.2.2.2.1 z6.2.1.2.2.2.2.2.1 z6.2.1.2.2.2.2.2.2.1 z6.2.1.2.2.2.2.2.2.2.1 z6.2.2.1.1 z6.2.2.1.2.1 z6.2.2.1.2.2.1 z6.2.2.1.2.2.2.1 z6.2.2.1.2.2.2.2.1 z6.2.2.1.2.2.2.2.2.1 1 z6.2.2.2.1.2.1 z6.2.2.2.1.2.2.1 z6.2.2.2.1.2.2.2.1 z6.2.2.2.1.2.2.2.2.1 z6.2.2.2.1.2.2.2.2.2.1).bind fun z7 =>
   some (z7.2.1, (z7.1, ())))
 else
  (gcd_15 y3.2.1.1 y3.2.1.2.1 x2 x3 x4 x5 x6 x7 x8 x9 0 0 0 0 0 0 y1.1 0 y2.1 y3.1.1 y3.1.2.1 y3.1.2.2.1).bind fun z8 =>
  some (z8.2.1, (z8.1, ()))
def gce_16201 (rec : Y24 → Option (List Y12 × (Y11 × Unit))) (x0 : List Int) (x1 : Int) (x2 x3 : List Y12) (x4 : Int) : Option Y18 :=
 bif (decide (0 ≤ x4) && decide (x4 < (x3.length : Int))) then
 (x3[x4.toNat]?).bind fun v0 =>
 (bif (v0.1 == 3) then some true else (bif (decide (0 ≤ x4) && decide (x4 < (x3.length : Int))) then ((x3[x4.toNat]?).bind fun v1 => some (v1.1 == 4)) else none)).bind fun b0 =>
 bif b0 then
  bif (decide (0 ≤ x4) && decide (x4 < (x3.length : Int))) then
  (x3[x4.toNat]?).bind fun v2 =>
  bif (decide (0 ≤ x4) && decide (x4 < (x3.length : Int))) then
  (x3[x4.toNat]?).bind fun v3 =>
  some ((x0, x1, ()), x2, (x3).set x4.toNat (v3.1, v3.2.1, v3.2.2.1, (wrap .i64 (v2.2.2.2 + (x2.length : Int)))), x4, ())
  else none
  else none
 else
  some ((x0, x1, ()), x2, x3, x4, ())
 else none
def gce_506r (rec : Y24 → Option (List Y12 × (Y11 × Unit))) (x0 : List Int) (x1 : Int) (x2 x3 : List Y12) (x4 : Int) : Option (Y18 ⊕ Y19) :=
 bif decide (x4 < (x3.length : Int)) then
  bif (decide (0 ≤ x4) && decide (x4 < (x3.length : Int))) then
  (x3[x4.toNat]?).bind fun v4 =>
  bif (v4.1 != 1) then
   bif (decide (0 ≤ x4) && decide (x4 < (x3.length : Int))) then
   (x3[x4.toNat]?).bind fun v5 =>
   bif (decide (0 ≤ x4) && decide (x4 < (x3.length : Int))) then
   (x3[x4.toNat]?).bind fun v6 =>
   (gce_16201 rec x0 x1 x2 ((x3).set x4.toNat (v6.1, v6.2.1, (wrap .i64 (v5.2.2.1 + (x2.length : Int))), v6.2.2.2)) x4).bind fun z0 =>
   some (.inl (z0.1, z0.2.1, z0.2.2.1, (wrap .i64 (z0.2.2.2.1 + 1)), ()))
   else none
   else none
  else
   (gce_16201 rec x0 x1 x2 x3 x4).bind fun z1 =>
   some (.inl (z1.1, z1.2.1, z1.2.2.1, (wrap .i64 (z1.2.2.2.1 + 1)), ()))
  else none
 else
  some (.inr ((x0, x1, ()), x2, x3, ()))
def gce_506F (rec : Y24 → Option (List Y12 × (Y11 × Unit))) (x : Y18) : Option (Y18 ⊕ Y19) := gce_506r rec x.1.1 x.1.2.1 x.2.1 x.2.2.1 x.2.2.2.1
def gce_506 (rec : Y24 → Option (List Y12 × (Y11 × Unit))) (x0 : List Int) (x1 : Int) (x2 x3 : List Y12) (x4 : Int) : Option Y19 := loopL (gce_506F rec) ((x0, x1, ()), x2, x3, x4, ())
def gceb (rec : Y24 → Option (List Y12 × (Y11 × Unit))) (x0 : List Int) (x1 x2 x3 : Int) : Option (List Y12 × (Y11 × Unit)) :=
 bif decide (x3 < 1) then
  (gbk x0 x1 x2).bind fun y0 =>
  some (([(1, y0.1, 0, 0)] : List Y12), y0.2)
 else
  (gbk x0 x1 3).bind fun y1 =>
  bif (y1.1 == 0) then
   (gbk y1.2.1.1 y1.2.1.2.1 x2).bind fun y2 =>
   some (([(1, y2.1, 0, 0)] : List Y12), y2.2)
  else
   (rec (y1.2.1, x2, (wrap .i64 (x3 - 1)), ())).bind fun y3 =>
   (gbl y3.2.1.1 y3.2.1.2.1 4).bind fun y4 =>
   bif y4.1 then
    bif decide ((y3.1.length + 1) * 32 ≤ 140737488355328) then
    some ((y3.1 ++ ([(2, 0, (wrap .i64 ((y3.1.length : Int) - 1)), 0)] : List Y12)), y4.2)
    else none
   else
    (rec (y4.2.1, x2, (wrap .i64 (x3 - 1)), ())).bind fun y5 =>
    (gce_506 rec y5.2.1.1 y5.2.1.2.1 y3.1 y5.1 0).bind fun z2 =>
    bif decide ((z2.2.1.length + z2.2.2.1.length) * 32 ≤ 140737488355328) then
    (gbm z2.1.1 z2.1.2.1 3 4).bind fun y6 =>
    bif decide (((z2.2.1 ++ z2.2.2.1).length + 1) * 32 ≤ 140737488355328) then
    some (((z2.2.1 ++ z2.2.2.1) ++ ([(y6.1, 0, (wrap .i64 ((z2.2.1.length : Int) - 1)), (wrap .i64 ((wrap .i64 ((z2.2.1.length : Int) + (z2.2.2.1.length : Int))) - 1)))] : List Y12)), y6.2)
    else none
    else none
def gcei : Nat → Y24 → Option (List Y12 × (Y11 × Unit))
 | 0 => fun _ => none
 | n + 1 => fun x => gceb (gcei n) x.1.1 x.1.2.1 x.2.1 x.2.2.1
def gce (x0 : List Int) (x1 x2 x3 : Int) : Option (List Y12 × (Y11 × Unit)) := gcei 1000000 ((x0, x1, ()), x2, x3, ())
def gcf_506r (x0 : List Int) (x1 : Int) (x2 : List (Int × Bool)) (x3 : List Y1) (x4 : List (Int × Bool × Bool × List (Int × Int))) (x5 : List Y13) (x6 : List Y3) (x7 : List Y5) (x8 : List Y21) (x9 x10 x11 x12 x13 : List Int) (x14 : List Y1) (x15 : List (Int × Bool × Bool × List (Int × Int))) (x16 : List Y13) (x17 x18 x19 x20 : List Int) (x21 : List (Int × Bool)) (x22 : List Y1) (x23 : List (Int × Bool × Bool × List (Int × Int))) (x24 : List Y13) (x25 : List Y3) (x26 : List Y5) (x27 : List Y21) (x28 : List Int) (x29 x30 : Int) : Option ((Y11 × (List (Int × Bool) × List Y1 × List (Int × Bool × Bool × List (Int × Int)) × List Y13 × List Y3 × List Y5 × List Y21 × List Int × Unit) × Y8 × Y8 × (Unit × List Y1 × List (Int × Bool × Bool × List (Int × Int)) × List Y13 × Unit) × Y8 × Y8 × (List (Int × Bool) × List Y1 × List (Int × Bool × Bool × List (Int × Int)) × List Y13 × List Y3 × List Y5 × List Y21 × List Int × Unit) × Int × Int × Unit) ⊕ (Y11 × (List (Int × Bool) × List Y1 × List (Int × Bool × Bool × List (Int × Int)) × List Y13 × List Y3 × List Y5 × List Y21 × List Int × Unit) × Y8 × Y8 × (Unit × List Y1 × List (Int × Bool × Bool × List (Int × Int)) × List Y13 × Unit) × Y8 × Y8 × (List (Int × Bool) × List Y1 × List (Int × Bool × Bool × List (Int × Int)) × List Y13 × List Y3 × List Y5 × List Y21 × List Int × Unit) × Int × Unit)) :=
 bif decide (x30 > 0) then
  (gbm x0 x1 1 4).bind fun y0 =>
  (gbk y0.2.1.1 y0.2.1.2.1 x29).bind fun y1 =>
  (gcb y1.2.1.1 y1.2.1.2.1 y0.1 (x25.length : Int) y1.1).bind fun y2 =>
  bif decide ((x25.length + 1) * 64 ≤ 140737488355328) then
  some (.inl (y2.2.1, (x2, x3, x4, x5, x6, x7, x8, x9, ()), (x10, x11, ()), (x12, x13, ()), ((), x14, x15, x16, ()), (x17, x18, ()), (x19, x20, ()), (x21, x22, x23, x24, (x25 ++ ([(y2.1.1, y2.1.2.1, y2.1.2.2.1, y2.1.2.2.2.1, y2.1.2.2.2.2.1, y2.1.2.2.2.2.2.1, y2.1.2.2.2.2.2.2.1, y2.1.2.2.2.2.2.2.2.1)] : List Y3)), x26, x27, x28, ()), x29, (wrap .i64 (x30 - 1)), ()))
  else none
 else
  some (.inr ((x0, x1, ()), (x2, x3, x4, x5, x6, x7, x8, x9, ()), (x10, x11, ()), (x12, x13, ()), ((), x14, x15, x16, ()), (x17, x18, ()), (x19, x20, ()), (x21, x22, x23, x24, x25, x26, x27, x28, ()), x29, ()))
def gcf_506F (x : (Y11 × (List (Int × Bool) × List Y1 × List (Int × Bool × Bool × List (Int × Int)) × List Y13 × List Y3 × List Y5 × List Y21 × List Int × Unit) × Y8 × Y8 × (Unit × List Y1 × List (Int × Bool × Bool × List (Int × Int)) × List Y13 × Unit) × Y8 × Y8 × (List (Int × Bool) × List Y1 × List (Int × Bool × Bool × List (Int × Int)) × List Y13 × List Y3 × List Y5 × List Y21 × List Int × Unit) × Int × Int × Unit)) := gcf_506r x.1.1 x.1.2.1 x.2.1.1 x.2.1.2.1 x.2.1.2.2.1 x.2.1.2.2.2.1 x.2.1.2.2.2.2.1 x.2.1.2.2.2.2.2.1 x.2.1.2.2.2.2.2.2.1 x.2.1.2.2.2.2.2.2.2.1 x.2.2.1.1 x.2.2.1.2.1 x.2.2.2.1.1 x.2.2.2.1.2.1 x.2.2.2.2.1.2.1 x.2.2.2.2.1.2.2.1 x.2.2.2.2.1.2.2.2.1 x.2.2.2.2.2.1.1 x.2.2.2.2.2.1.2.1 x.2.2.2.2.2.2.1.1 x.2.2.2.2.2.2.1.2.1 x.2.2.2.2.2.2.2.1.1 x.2.2.2.2.2.2.2.1.2.1 x.2.2.2.2.2.2.2.1.2.2.1 x.2.2.2.2.2.2.2.1.2.2.2.1 x.2.2.2.2.2.2.2.1.2.2.2.2.1 x.2.2.2.2.2.2.2.1.2.2.2.2.2.1 x.2.2.2.2.2.2.2.1.2.2.2.2.2.2.1 x.2.2.2.2.2.2.2.1.2.2.2.2.2.2.2.1 x.2.2.2.2.2.2.2.2.1 x.2.2.2.2.2.2.2.2.2.1
def gcf_506 (x0 : List Int) (x1 : Int) (x2 : List (Int × Bool)) (x3 : List Y1) (x4 : List (Int × Bool × Bool × List (Int × Int))) (x5 : List Y13) (x6 : List Y3) (x7 : List Y5) (x8 : List Y21) (x9 x10 x11 x12 x13 : List Int) (x14 : List Y1) (x15 : List (Int × Bool × Bool × List (Int × Int))) (x16 : List Y13) (x17 x18 x19 x20 : List Int) (x21 : List (Int × Bool)) (x22 : List Y1) (x23 : List (Int × Bool × Bool × List (Int × Int))) (x24 : List Y13) (x25 : List Y3) (x26 : List Y5) (x27 : List Y21) (x28 : List Int) (x29 x30 : Int) := loopL gcf_506F ((x0, x1, ()), (x2, x3, x4, x5, x6, x7, x8, x9, ()), (x10, x11, ()), (x12, x13, ()), ((), x14, x15, x16, ()), (x17, x18, ()), (x19, x20, ()), (x21, x22, x23, x24, x25, x26, x27, x28, ()), x29, x30, ())
def gcf_1018r (x0 : List Int) (x1 : Int) (x2 : List (Int × Bool)) (x3 : List Y1) (x4 : List (Int × Bool × Bool × List (Int × Int))) (x5 : List Y13) (x6 : List Y3) (x7 : List Y5) (x8 : List Y21) (x9 x10 x11 x12 x13 : List Int) (x14 : List Y1) (x15 : List (Int × Bool × Bool × List (Int × Int))) (x16 : List Y13) (x17 x18 x19 x20 : List Int) (x21 : List (Int × Bool)) (x22 : List Y1) (x23 : List (Int × Bool × Bool × List (Int × Int))) (x24 : List Y13) (x25 : List Y3) (x26 : List Y5) (x27 : List Y21) (x28 : List Int) (x29 x30 : Int) : Option ((Y11 × (List (Int × Bool) × List Y1 × List (Int × Bool × Bool × List (Int × Int)) × List Y13 × List Y3 × List Y5 × List Y21 × List Int × Unit) × Y8 × Y8 × (Unit × List Y1 × List (Int × Bool × Bool × List (Int × Int)) × List Y13 × Unit) × Y8 × Y8 × (List (Int × Bool) × List Y1 × List (Int × Bool × Bool × List (Int × Int)) × List Y13 × List Y3 × List Y5 × List Y21 × List Int × Unit) × Int × Int × Unit) ⊕ (Y11 × (List (Int × Bool) × List Y1 × List (Int × Bool × Bool × List (Int × Int)) × List Y13 × List Y3 × List Y5 × List Y21 × List Int × Unit) × Y8 × Y8 × (Unit × List Y1 × List (Int × Bool × Bool × List (Int × Int)) × List Y13 × Unit) × Y8 × Y8 × (List (Int × Bool) × List Y1 × List (Int × Bool × Bool × List (Int × Int)) × List Y13 × List Y3 × List Y5 × List Y21 × List Int × Unit) × Int × Unit)) :=
 bif decide (x30 < (x15.length : Int)) then
  (gcb x0 x1 5 (x25.length : Int) x30).bind fun y3 =>
  bif decide ((x25.length + 1) * 64 ≤ 140737488355328) then
  some (.inl (y3.2.1, (x2, x3, x4, x5, x6, x7, x8, x9, ()), (x10, x11, ()), (x12, x13, ()), ((), x14, x15, x16, ()), (x17, x18, ()), (x19, x20, ()), (x21, x22, x23, x24, (x25 ++ ([(y3.1.1, y3.1.2.1, y3.1.2.2.1, y3.1.2.2.2.1, y3.1.2.2.2.2.1, y3.1.2.2.2.2.2.1, y3.1.2.2.2.2.2.2.1, y3.1.2.2.2.2.2.2.2.1)] : List Y3)), x26, x27, x28, ()), x29, (wrap .i64 (x30 + 1)), ()))
  else none
 else
  some (.inr ((x0, x1, ()), (x2, x3, x4, x5, x6, x7, x8, x9, ()), (x10, x11, ()), (x12, x13, ()), ((), x14, x15, x16, ()), (x17, x18, ()), (x19, x20, ()), (x21, x22, x23, x24, x25, x26, x27, x28, ()), x29, ()))
def gcf_1018F (x : (Y11 × (List (Int × Bool) × List Y1 × List (Int × Bool × Bool × List (Int × Int)) × List Y13 × List Y3 × List Y5 × List Y21 × List Int × Unit) × Y8 × Y8 × (Unit × List Y1 × List (Int × Bool × Bool × List (Int × Int)) × List Y13 × Unit) × Y8 × Y8 × (List (Int × Bool) × List Y1 × List (Int × Bool × Bool × List (Int × Int)) × List Y13 × List Y3 × List Y5 × List Y21 × List Int × Unit) × Int × Int × Unit)) := gcf_1018r x.1.1 x.1.2.1 x.2.1.1 x.2.1.2.1 x.2.1.2.2.1 x.2.1.2.2.2.1 x.2.1.2.2.2.2.1 x.2.1.2.2.2.2.2.1 x.2.1.2.2.2.2.2.2.1 x.2.1.2.2.2.2.2.2.2.1 x.2.2.1.1 x.2.2.1.2.1 x.2.2.2.1.1 x.2.2.2.1.2.1 x.2.2.2.2.1.2.1 x.2.2.2.2.1.2.2.1 x.2.2.2.2.1.2.2.2.1 x.2.2.2.2.2.1.1 x.2.2.2.2.2.1.2.1 x.2.2.2.2.2.2.1.1 x.2.2.2.2.2.2.1.2.1 x.2.2.2.2.2.2.2.1.1 x.2.2.2.2.2.2.2.1.2.1 x.2.2.2.2.2.2.2.1.2.2.1 x.2.2.2.2.2.2.2.1.2.2.2.1 x.2.2.2.2.2.2.2.1.2.2.2.2.1 x.2.2.2.2.2.2.2.1.2.2.2.2.2.1 x.2.2.2.2.2.2.2.1.2.2.2.2.2.2.1 x.2.2.2.2.2.2.2.1.2.2.2.2.2.2.2.1 x.2.2.2.2.2.2.2.2.1 x.2.2.2.2.2.2.2.2.2.1
def gcf_1018 (x0 : List Int) (x1 : Int) (x2 : List (Int × Bool)) (x3 : List Y1) (x4 : List (Int × Bool × Bool × List (Int × Int))) (x5 : List Y13) (x6 : List Y3) (x7 : List Y5) (x8 : List Y21) (x9 x10 x11 x12 x13 : List Int) (x14 : List Y1) (x15 : List (Int × Bool × Bool × List (Int × Int))) (x16 : List Y13) (x17 x18 x19 x20 : List Int) (x21 : List (Int × Bool)) (x22 : List Y1) (x23 : List (Int × Bool × Bool × List (Int × Int))) (x24 : List Y13) (x25 : List Y3) (x26 : List Y5) (x27 : List Y21) (x28 : List Int) (x29 x30 : Int) := loopL gcf_1018F ((x0, x1, ()), (x2, x3, x4, x5, x6, x7, x8, x9, ()), (x10, x11, ()), (x12, x13, ()), ((), x14, x15, x16, ()), (x17, x18, ()), (x19, x20, ()), (x21, x22, x23, x24, x25, x26, x27, x28, ()), x29, x30, ())
def gcf_2042r (x0 : List Int) (x1 : Int) (x2 : List (Int × Bool)) (x3 : List Y1) (x4 : List (Int × Bool × Bool × List (Int × Int))) (x5 : List Y13) (x6 : List Y3) (x7 : List Y5) (x8 : List Y21) (x9 x10 x11 x12 x13 : List Int) (x14 : List Y1) (x15 : List (Int × Bool × Bool × List (Int × Int))) (x16 : List Y13) (x17 x18 x19 x20 : List Int) (x21 : List (Int × Bool)) (x22 : List Y1) (x23 : List (Int × Bool × Bool × List (Int × Int))) (x24 : List Y13) (x25 : List Y3) (x26 : List Y5) (x27 : List Y21) (x28 : List Int) (x29 x30 : Int) : Option ((Y11 × (List (Int × Bool) × List Y1 × List (Int × Bool × Bool × List (Int × Int)) × List Y13 × List Y3 × List Y5 × List Y21 × List Int × Unit) × Y8 × Y8 × (Unit × List Y1 × List (Int × Bool × Bool × List (Int × Int)) × List Y13 × Unit) × Y8 × Y8 × (List (Int × Bool) × List Y1 × List (Int × Bool × Bool × List (Int × Int)) × List Y13 × List Y3 × List Y5 × List Y21 × List Int × Unit) × Int × Int × Unit) ⊕ (Y11 × (List (Int × Bool) × List Y1 × List (Int × Bool × Bool × List (Int × Int)) × List Y13 × List Y3 × List Y5 × List Y21 × List Int × Unit) × Y8 × Y8 × Y8 × Y8 × (List (Int × Bool) × List Y1 × List (Int × Bool × Bool × List (Int × Int)) × List Y13 × List Y3 × List Y5 × List Y21 × List Int × Unit) × Int × Unit)) :=
 bif decide (x30 < (x16.length : Int)) then
  (gcb x0 x1 6 (x25.length : Int) x30).bind fun y4 =>
  bif decide ((x25.length + 1) * 64 ≤ 140737488355328) then
  some (.inl (y4.2.1, (x2, x3, x4, x5, x6, x7, x8, x9, ()), (x10, x11, ()), (x12, x13, ()), ((), x14, x15, x16, ()), (x17, x18, ()), (x19, x20, ()), (x21, x22, x23, x24, (x25 ++ ([(y4.1.1, y4.1.2.1, y4.1.2.2.1, y4.1.2.2.2.1, y4.1.2.2.2.2.1, y4.1.2.2.2.2.2.1, y4.1.2.2.2.2.2.2.1, y4.1.2.2.2.2.2.2.2.1)] : List Y3)), x26, x27, x28, ()), x29, (wrap .i64 (x30 + 1)), ()))
  else none
 else
  some (.inr ((x0, x1, ()), (x2, x3, x4, x5, x6, x7, x8, x9, ()), (x10, x11, ()), (x12, x13, ()), (x17, x18, ()), (x19, x20, ()), (x21, x22, x23, x24, x25, x26, x27, x28, ()), x29, ()))
def gcf_2042F (x : (Y11 × (List (Int × Bool) × List Y1 × List (Int × Bool × Bool × List (Int × Int)) × List Y13 × List Y3 × List Y5 × List Y21 × List Int × Unit) × Y8 × Y8 × (Unit × List Y1 × List (Int × Bool × Bool × List (Int × Int)) × List Y13 × Unit) × Y8 × Y8 × (List (Int × Bool) × List Y1 × List (Int × Bool × Bool × List (Int × Int)) × List Y13 × List Y3 × List Y5 × List Y21 × List Int × Unit) × Int × Int × Unit)) := gcf_2042r x.1.1 x.1.2.1 x.2.1.1 x.2.1.2.1 x.2.1.2.2.1 x.2.1.2.2.2.1 x.2.1.2.2.2.2.1 x.2.1.2.2.2.2.2.1 x.2.1.2.2.2.2.2.2.1 x.2.1.2.2.2.2.2.2.2.1 x.2.2.1.1 x.2.2.1.2.1 x.2.2.2.1.1 x.2.2.2.1.2.1 x.2.2.2.2.1.2.1 x.2.2.2.2.1.2.2.1 x.2.2.2.2.1.2.2.2.1 x.2.2.2.2.2.1.1 x.2.2.2.2.2.1.2.1 x.2.2.2.2.2.2.1.1 x.2.2.2.2.2.2.1.2.1 x.2.2.2.2.2.2.2.1.1 x.2.2.2.2.2.2.2.1.2.1 x.2.2.2.2.2.2.2.1.2.2.1 x.2.2.2.2.2.2.2.1.2.2.2.1 x.2.2.2.2.2.2.2.1.2.2.2.2.1 x.2.2.2.2.2.2.2.1.2.2.2.2.2.1 x.2.2.2.2.2.2.2.1.2.2.2.2.2.2.1 x.2.2.2.2.2.2.2.1.2.2.2.2.2.2.2.1 x.2.2.2.2.2.2.2.2.1 x.2.2.2.2.2.2.2.2.2.1
def gcf_2042 (x0 : List Int) (x1 : Int) (x2 : List (Int × Bool)) (x3 : List Y1) (x4 : List (Int × Bool × Bool × List (Int × Int))) (x5 : List Y13) (x6 : List Y3) (x7 : List Y5) (x8 : List Y21) (x9 x10 x11 x12 x13 : List Int) (x14 : List Y1) (x15 : List (Int × Bool × Bool × List (Int × Int))) (x16 : List Y13) (x17 x18 x19 x20 : List Int) (x21 : List (Int × Bool)) (x22 : List Y1) (x23 : List (Int × Bool × Bool × List (Int × Int))) (x24 : List Y13) (x25 : List Y3) (x26 : List Y5) (x27 : List Y21) (x28 : List Int) (x29 x30 : Int) := loopL gcf_2042F ((x0, x1, ()), (x2, x3, x4, x5, x6, x7, x8, x9, ()), (x10, x11, ()), (x12, x13, ()), ((), x14, x15, x16, ()), (x17, x18, ()), (x19, x20, ()), (x21, x22, x23, x24, x25, x26, x27, x28, ()), x29, x30, ())
def gcf_4090r (x0 : List Int) (x1 : Int) (x2 : List (Int × Bool)) (x3 : List Y1) (x4 : List (Int × Bool × Bool × List (Int × Int))) (x5 : List Y13) (x6 : List Y3) (x7 : List Y5) (x8 : List Y21) (x9 x10 x11 x12 x13 x14 x15 x16 x17 : List Int) (x18 : List (Int × Bool)) (x19 : List Y1) (x20 : List (Int × Bool × Bool × List (Int × Int))) (x21 : List Y13) (x22 : List Y3) (x23 : List Y5) (x24 : List Y21) (x25 : List Int) (x26 x27 : Int) : Option ((Y11 × (List (Int × Bool) × List Y1 × List (Int × Bool × Bool × List (Int × Int)) × List Y13 × List Y3 × List Y5 × List Y21 × List Int × Unit) × Y8 × Y8 × Y8 × Y8 × (List (Int × Bool) × List Y1 × List (Int × Bool × Bool × List (Int × Int)) × List Y13 × List Y3 × List Y5 × List Y21 × List Int × Unit) × Int × Int × Unit) ⊕ (Y11 × (List (Int × Bool) × List Y1 × List (Int × Bool × Bool × List (Int × Int)) × List Y13 × List Y3 × List Y5 × List Y21 × List Int × Unit) × Y8 × Y8 × Y8 × Y8 × (List (Int × Bool) × List Y1 × List (Int × Bool × Bool × List (Int × Int)) × List Y13 × List Y3 × List Y5 × List Y21 × List Int × Unit) × Int × Unit)) :=
 bif decide (x27 > 0) then
  (gcd x0 x1 x18 x19 x20 x21 x22 x23 x24 x25).bind fun y5 =>
  bif decide ((x23.length + 1) * 48 ≤ 140737488355328) then
  some (.inl (y5.2.1, (x2, x3, x4, x5, x6, x7, x8, x9, ()), (x10, x11, ()), (x12, x13, ()), (x14, x15, ()), (x16, x17, ()), (x18, x19, x20, x21, x22, (x23 ++ ([(y5.1.1, y5.1.2.1, y5.1.2.2.1, y5.1.2.2.2.1, y5.1.2.2.2.2.1, y5.1.2.2.2.2.2.1)] : List Y5)), x24, x25, ()), x26, (wrap .i64 (x27 - 1)), ()))
  else none
 else
  some (.inr ((x0, x1, ()), (x2, x3, x4, x5, x6, x7, x8, x9, ()), (x10, x11, ()), (x12, x13, ()), (x14, x15, ()), (x16, x17, ()), (x18, x19, x20, x21, x22, x23, x24, x25, ()), x26, ()))
def gcf_4090F (x : (Y11 × (List (Int × Bool) × List Y1 × List (Int × Bool × Bool × List (Int × Int)) × List Y13 × List Y3 × List Y5 × List Y21 × List Int × Unit) × Y8 × Y8 × Y8 × Y8 × (List (Int × Bool) × List Y1 × List (Int × Bool × Bool × List (Int × Int)) × List Y13 × List Y3 × List Y5 × List Y21 × List Int × Unit) × Int × Int × Unit)) := gcf_4090r x.1.1 x.1.2.1 x.2.1.1 x.2.1.2.1 x.2.1.2.2.1 x.2.1.2.2.2.1 x.2.1.2.2.2.2.1 x.2.1.2.2.2.2.2.1 x.2.1.2.2.2.2.2.2.1 x.2.1.2.2.2.2.2.2.2.1 x.2.2.1.1 x.2.2.1.2.1 x.2.2.2.1.1 x.2.2.2.1.2.1 x.2.2.2.2.1.1 x.2.2.2.2.1.2.1 x.2.2.2.2.2.1.1 x.2.2.2.2.2.1.2.1 x.2.2.2.2.2.2.1.1 x.2.2.2.2.2.2.1.2.1 x.2.2.2.2.2.2.1.2.2.1 x.2.2.2.2.2.2.1.2.2.2.1 x.2.2.2.2.2.2.1.2.2.2.2.1 x.2.2.2.2.2.2.1.2.2.2.2.2.1 x.2.2.2.2.2.2.1.2.2.2.2.2.2.1 x.2.2.2.2.2.2.1.2.2.2.2.2.2.2.1 x.2.2.2.2.2.2.2.1 x.2.2.2.2.2.2.2.2.1
def gcf_4090 (x0 : List Int) (x1 : Int) (x2 : List (Int × Bool)) (x3 : List Y1) (x4 : List (Int × Bool × Bool × List (Int × Int))) (x5 : List Y13) (x6 : List Y3) (x7 : List Y5) (x8 : List Y21) (x9 x10 x11 x12 x13 x14 x15 x16 x17 : List Int) (x18 : List (Int × Bool)) (x19 : List Y1) (x20 : List (Int × Bool × Bool × List (Int × Int))) (x21 : List Y13) (x22 : List Y3) (x23 : List Y5) (x24 : List Y21) (x25 : List Int) (x26 x27 : Int) := loopL gcf_4090F ((x0, x1, ()), (x2, x3, x4, x5, x6, x7, x8, x9, ()), (x10, x11, ()), (x12, x13, ()), (x14, x15, ()), (x16, x17, ()), (x18, x19, x20, x21, x22, x23, x24, x25, ()), x26, x27, ())
def gcf_2095690r (x0 : List Int) (x1 : Int) (x2 : List (Int × Bool)) (x3 : List Y1) (x4 : List (Int × Bool × Bool × List (Int × Int))) (x5 : List Y13) (x6 : List Y3) (x7 : List Y5) (x8 : List Y21) (x9 x10 x11 x12 x13 x14 x15 x16 x17 : List Int) (x18 : List (Int × Bool)) (x19 : List Y1) (x20 : List (Int × Bool × Bool × List (Int × Int))) (x21 : List Y13) (x22 : List Y3) (x23 : List Y5) (x24 : List Y21) (x25 : List Int) (x26 x27 : Int) (x28 : List Y12) (x29 : Int) (x30 : List Int) (x31 x32 : Int) : Option ((Y11 × (List (Int × Bool) × List Y1 × List (Int × Bool × Bool × List (Int × Int)) × List Y13 × List Y3 × List Y5 × List Y21 × List Int × Unit) × Y8 × Y8 × Y8 × Y8 × (List (Int × Bool) × List Y1 × List (Int × Bool × Bool × List (Int × Int)) × List Y13 × List Y3 × List Y5 × List Y21 × List Int × Unit) × Int × Int × Y17 × Int × Unit) ⊕ (Y11 × (List (Int × Bool) × List Y1 × List (Int × Bool × Bool × List (Int × Int)) × List Y13 × List Y3 × List Y5 × List Y21 × List Int × Unit) × Y8 × Y8 × Y8 × Y8 × (List (Int × Bool) × List Y1 × List (Int × Bool × Bool × List (Int × Int)) × List Y13 × List Y3 × List Y5 × List Y21 × List Int × Unit) × Int × Int × Y17 × Unit)) :=
 bif decide (x32 < x26) then
  (gbl x0 x1 4).bind fun y6 =>
  bif y6.1 then
   bif decide ((x30.length + 1) * 8 ≤ 140737488355328) then
   some (.inl (y6.2.1, (x2, x3, x4, x5, x6, x7, x8, x9, ()), (x10, x11, ()), (x12, x13, ()), (x14, x15, ()), (x16, x17, ()), (x18, x19, x20, x21, x22, x23, x24, x25, ()), x26, x27, (x28, x29, (x30 ++ ([x32] : List Int)), x31, ()), (wrap .i64 (x32 + 1)), ()))
   else none
  else
   some (.inl (y6.2.1, (x2, x3, x4, x5, x6, x7, x8, x9, ()), (x10, x11, ()), (x12, x13, ()), (x14, x15, ()), (x16, x17, ()), (x18, x19, x20, x21, x22, x23, x24, x25, ()), x26, x27, (x28, x29, x30, x31, ()), (wrap .i64 (x32 + 1)), ()))
 else
  some (.inr ((x0, x1, ()), (x2, x3, x4, x5, x6, x7, x8, x9, ()), (x10, x11, ()), (x12, x13, ()), (x14, x15, ()), (x16, x17, ()), (x18, x19, x20, x21, x22, x23, x24, x25, ()), x26, x27, (x28, x29, x30, x31, ()), ()))
def gcf_2095690F (x : (Y11 × (List (Int × Bool) × List Y1 × List (Int × Bool × Bool × List (Int × Int)) × List Y13 × List Y3 × List Y5 × List Y21 × List Int × Unit) × Y8 × Y8 × Y8 × Y8 × (List (Int × Bool) × List Y1 × List (Int × Bool × Bool × List (Int × Int)) × List Y13 × List Y3 × List Y5 × List Y21 × List Int × Unit) × Int × Int × Y17 × Int × Unit)) := gcf_2095690r x.1.1 x.1.2.1 x.2.1.1 x.2.1.2.1 x.2.1.2.2.1 x.2.1.2.2.2.1 x.2.1.2.2.2.2.1 x.2.1.2.2.2.2.2.1 x.2.1.2.2.2.2.2.2.1 x.2.1.2.2.2.2.2.2.2.1 x.2.2.1.1 x.2.2.1.2.1 x.2.2.2.1.1 x.2.2.2.1.2.1 x.2.2.2.2.1.1 x.2.2.2.2.1.2.1 x.2.2.2.2.2.1.1 x.2.2.2.2.2.1.2.1 x.2.2.2.2.2.2.1.1 x.2.2.2.2.2.2.1.2.1 x.2.2.2.2.2.2.1.2.2.1 x.2.2.2.2.2.2.1.2.2.2.1 x.2.2.2.2.2.2.1.2.2.2.2.1 x.2.2.2.2.2.2.1.2.2.2.2.2.1 x.2.2.2.2.2.2.1.2.2.2.2.2.2.1 x.2.2.2.2.2.2.1.2.2.2.2.2.2.2.1 x.2.2.2.2.2.2.2.1 x.2.2.2.2.2.2.2.2.1 x.2.2.2.2.2.2.2.2.2.1.1 x.2.2.2.2.2.2.2.2.2.1.2.1 x.2.2.2.2.2.2.2.2.2.1.2.2.1 x.2.2.2.2.2.2.2.2.2.1.2.2.2.1 x.2.2.2.2.2.2.2.2.2.2.1
def gcf_2095690 (x0 : List Int) (x1 : Int) (x2 : List (Int × Bool)) (x3 : List Y1) (x4 : List (Int × Bool × Bool × List (Int × Int))) (x5 : List Y13) (x6 : List Y3) (x7 : List Y5) (x8 : List Y21) (x9 x10 x11 x12 x13 x14 x15 x16 x17 : List Int) (x18 : List (Int × Bool)) (x19 : List Y1) (x20 : List (Int × Bool × Bool × List (Int × Int))) (x21 : List Y13) (x22 : List Y3) (x23 : List Y5) (x24 : List Y21) (x25 : List Int) (x26 x27 : Int) (x28 : List Y12) (x29 : Int) (x30 : List Int) (x31 x32 : Int) := loopL gcf_2095690F ((x0, x1, ()), (x2, x3, x4, x5, x6, x7, x8, x9, ()), (x10, x11, ()), (x12, x13, ()), (x14, x15, ()), (x16, x17, ()), (x18, x19, x20, x21, x22, x23, x24, x25, ()), x26, x27, (x28, x29, x30, x31, ()), x32, ())
def gcf_8186r (x0 : List Int) (x1 : Int) (x2 : List (Int × Bool)) (x3 : List Y1) (x4 : List (Int × Bool × Bool × List (Int × Int))) (x5 : List Y13) (x6 : List Y3) (x7 : List Y5) (x8 : List Y21) (x9 x10 x11 x12 x13 x14 x15 x16 x17 : List Int) (x18 : List (Int × Bool)) (x19 : List Y1) (x20 : List (Int × Bool × Bool × List (Int × Int))) (x21 : List Y13) (x22 : List Y3) (x23 : List Y5) (x24 : List Y21) (x25 : List Int) (x26 x27 : Int) : Option ((Y11 × (List (Int × Bool) × List Y1 × List (Int × Bool × Bool × List (Int × Int)) × List Y13 × List Y3 × List Y5 × List Y21 × List Int × Unit) × Y8 × Y8 × Y8 × Y8 × (List (Int × Bool) × List Y1 × List (Int × Bool × Bool × List (Int × Int)) × List Y13 × List Y3 × List Y5 × List Y21 × List Int × Unit) × Int × Int × Unit) ⊕ (Y11 × (List (Int × Bool) × List Y1 × List (Int × Bool × Bool × List (Int × Int)) × List Y13 × List Y3 × List Y5 × List Y21 × List Int × Unit) × Y8 × Y8 × Y8 × Y8 × (List (Int × Bool) × List Y1 × List (Int × Bool × Bool × List (Int × Int)) × List Y13 × List Y3 × List Y5 × List Y21 × List Int × Unit) × Unit)) :=
 bif decide (x27 > 0) then
  (gce x0 x1 (x23.length : Int) 2).bind fun y7 =>
  (gbk y7.2.1.1 y7.2.1.2.1 9).bind fun y8 =>
  (gbk y8.2.1.1 y8.2.1.2.1 2).bind fun y9 =>
  (gcf_2095690 y9.2.1.1 y9.2.1.2.1 x2 x3 x4 x5 x6 x7 x8 x9 x10 x11 x12 x13 x14 x15 x16 x17 x18 x19 x20 x21 x22 x23 x24 x25 x26 x27 y7.1 y8.1 ([] : List Int) y9.1 0).bind fun z0 =>
  bif decide ((z0.2.2.2.2.2.2.1.2.2.2.2.2.2.1.length + 1) * 64 ≤ 140737488355328) then
  some (.inl (z0.1, z0.2.1, z0.2.2.1, z0.2.2.2.1, z0.2.2.2.2.1, z0.2.2.2.2.2.1, (z0.2.2.2.2.2.2.1.1, z0.2.2.2.2.2.2.1.2.1, z0.2.2.2.2.2.2.1.2.2.1, z0.2.2.2.2.2.2.1.2.2.2.1, z0.2.2.2.2.2.2.1.2.2.2.2.1, z0.2.2.2.2.2.2.1.2.2.2.2.2.1, (z0.2.2.2.2.2.2.1.2.2.2.2.2.2.1 ++ ([(z0.2.2.2.2.2.2.2.2.2.1.1, z0.2.2.2.2.2.2.2.2.2.1.2.1, z0.2.2.2.2.2.2.2.2.2.1.2.2.1, z0.2.2.2.2.2.2.2.2.2.1.2.2.2.1)] : List Y21)), z0.2.2.2.2.2.2.1.2.2.2.2.2.2.2.1, ()), z0.2.2.2.2.2.2.2.1, (wrap .i64 (z0.2.2.2.2.2.2.2.2.1 - 1)), ()))
  else none
 else
  some (.inr ((x0, x1, ()), (x2, x3, x4, x5, x6, x7, x8, x9, ()), (x10, x11, ()), (x12, x13, ()), (x14, x15, ()), (x16, x17, ()), (x18, x19, x20, x21, x22, x23, x24, x25, ()), ()))
def gcf_8186F (x : (Y11 × (List (Int × Bool) × List Y1 × List (Int × Bool × Bool × List (Int × Int)) × List Y13 × List Y3 × List Y5 × List Y21 × List Int × Unit) × Y8 × Y8 × Y8 × Y8 × (List (Int × Bool) × List Y1 × List (Int × Bool × Bool × List (Int × Int)) × List Y13 × List Y3 × List Y5 × List Y21 × List Int × Unit) × Int × Int × Unit)) := gcf_8186r x.1.1 x.1.2.1 x.2.1.1 x.2.1.2.1 x.2.1.2.2.1 x.2.1.2.2.2.1 x.2.1.2.2.2.2.1 x.2.1.2.2.2.2.2.1 x.2.1.2.2.2.2.2.2.1 x.2.1.2.2.2.2.2.2.2.1 x.2.2.1.1 x.2.2.1.2.1 x.2.2.2.1.1 x.2.2.2.1.2.1 x.2.2.2.2.1.1 x.2.2.2.2.1.2.1 x.2.2.2.2.2.1.1 x.2.2.2.2.2.1.2.1 x.2.2.2.2.2.2.1.1 x.2.2.2.2.2.2.1.2.1 x.2.2.2.2.2.2.1.2.2.1 x.2.2.2.2.2.2.1.2.2.2.1 x.2.2.2.2.2.2.1.2.2.2.2.1 x.2.2.2.2.2.2.1.2.2.2.2.2.1 x.2.2.2.2.2.2.1.2.2.2.2.2.2.1 x.2.2.2.2.2.2.1.2.2.2.2.2.2.2.1 x.2.2.2.2.2.2.2.1 x.2.2.2.2.2.2.2.2.1
def gcf_8186 (x0 : List Int) (x1 : Int) (x2 : List (Int × Bool)) (x3 : List Y1) (x4 : List (Int × Bool × Bool × List (Int × Int))) (x5 : List Y13) (x6 : List Y3) (x7 : List Y5) (x8 : List Y21) (x9 x10 x11 x12 x13 x14 x15 x16 x17 : List Int) (x18 : List (Int × Bool)) (x19 : List Y1) (x20 : List (Int × Bool × Bool × List (Int × Int))) (x21 : List Y13) (x22 : List Y3) (x23 : List Y5) (x24 : List Y21) (x25 : List Int) (x26 x27 : Int) := loopL gcf_8186F ((x0, x1, ()), (x2, x3, x4, x5, x6, x7, x8, x9, ()), (x10, x11, ()), (x12, x13, ()), (x14, x15, ()), (x16, x17, ()), (x18, x19, x20, x21, x22, x23, x24, x25, ()), x26, x27, ())
def gcf_31 (x0 : List Int) (x1 : Int) (x2 : List (Int × Bool)) (x3 : List Y1) (x4 : List (Int × Bool × Bool × List (Int × Int))) (x5 : List Y13) (x6 : List Y3) (x7 : List Y5) (x8 : List Y21) (x9 x10 x11 x12 x13 : List Int) (x14 : List Y1) (x15 : List (Int × Bool × Bool × List (Int × Int))) (x16 : List Y13) (x17 x18 x19 x20 : List Int) (x21 : List (Int × Bool)) (x22 : List Y1) (x23 : List (Int × Bool × Bool × List (Int × Int))) (x24 : List Y13) (x25 : List Y3) (x26 : List Y5) (x27 : List Y21) (x28 : List Int) : Option (Y11 × (List (Int × Bool) × List Y1 × List (Int × Bool × Bool × List (Int × Int)) × List Y13 × List Y3 × List Y5 × List Y21 × List Int × Unit) × Y8 × Y8 × Unit) :=
 (gbm x0 x1 1 4).bind fun y10 =>
 (gcf_506 y10.2.1.1 y10.2.1.2.1 x2 x3 x4 x5 x6 x7 x8 x9 x10 x11 x12 x13 x14 x15 x16 x17 x18 x19 x20 x21 x22 x23 x24 x25 x26 x27 x28 (x22.length : Int) y10.1).bind fun z1 =>
 (gcf_1018 z1.1.1 z1.1.2.1 z1.2.1.1 z1.2.1.2.1 z1.2.1.2.2.1 z1.2.1.2.2.2.1 z1.2.1.2.2.2.2.1 z1.2.1.2.2.2.2.2.1 z1.2.1.2.2.2.2.2.2.1 z1.2.1.2.2.2.2.2.2.2.1 z1.2.2.1.1 z1.2.2.1.2.1 z1.2.2.2.1.1 z1.2.2.2.1.2.1 z1.2.2.2.2.1.2.1 z1.2.2.2.2.1.2.2.1 z1.2.2.2.2.1.2.2.2.1 z1.2.2.2.2.2.1.1 z1.2.2.2.2.2.1.2.1 z1.2.2.2.2.2.2.1.1 z1.2.2.2.2.2.2.1.2.1 z1.2.2.2.2.2.2.2.1.1 z1.2.2.2.2.2.2.2.1.2.1 z1.2.2.2.2.2.2.2.1.2.2.1 z1.2.2.2.2.2.2.2.1.2.2.2.1 z1.2.2.2.2.2.2.2.1.2.2.2.2.1 z1.2.2.2.2.2.2.2.1.2.2.2.2.2.1 z1.2.2.2.2.2.2.2.1.2.2.2.2.2.2.1 z1.2.2.2.2.2.2.2.1.2.2.2.2.2.2.2.1 z1.2.2.2.2.2.2.2.2.1 0).bind fun z2 =>
 (gcf_2042 z2.1.1 z2.1.2.1 z2.2.1.1 z2.2.1.2.1 z2.2.1.2.2.1 z2.2.1.2.2.2.1 z2.2.1.2.2.2.2.1 z2.2.1.2.2.2.2.2.1 z2.2.1.2.2.2.2.2.2.1 z2.2.1.2.2.2.2.2.2.2.1 z2.2.2.1.1 z2.2.2.1.2.1 z2.2.2.2.1.1 z2.2.2.2.1.2.1 z2.2.2.2.2.1.2.1 z2.2.2.2.2.1.2.2.1 z2.2.2.2.2.1.2.2.2.1 z2.2.2.2.2.2.1.1 z2.2.2.2.2.2.1.2.1 z2.2.2.2.2.2.2.1.1 z2.2.2.2.2.2.2.1.2.1 z2.2.2.2.2.2.2.2.1.1 z2.2.2.2.2.2.2.2.1.2.1 z2.2.2.2.2.2.2.2.1.2.2.1 z2.2.2.2.2.2.2.2.1.2.2.2.1 z2.2.2.2.2.2.2.2.1.2.2.2.2.1 z2.2.2.2.2.2.2.2.1.2.2.2.2.2.1 z2.2.2.2.2.2.2.2.1.2.2.2.2.2.2.1 z2.2.2.2.2.2.2.2.1.2.2.2.2.2.2.2.1 z2.2.2.2.2.2.2.2.2.1 0).bind fun z3 =>
 (gbm z3.1.1 z3.1.2.1 1 4).bind fun y11 =>
 (gcf_4090 y11.2.1.1 y11.2.1.2.1 z3.2.1.1 z3.2.1.2.1 z3.2.1.2.2.1 z3.2.1.2.2.2.1 z3.2.1.2.2.2.2.1 z3.2.1.2.2.2.2.2.1 z3.2.1.2.2.2.2.2.2.1 z3.2.1.2.2.2.2.2.2.2.1 z3.2.2.1.1 z3.2.2.1.2.1 z3.2.2.2.1.1 z3.2.2.2.1.2.1 z3.2.2.2.2.1.1 z3.2.2.2.2.1.2.1 z3.2.2.2.2.2.1.1 z3.2.2.2.2.2.1.2.1 z3.2.2.2.2.2.2.1.1 z3.2.2.2.2.2.2.1.2.1 z3.2.2.2.2.2.2.1.2.2.1 z3.2.2.2.2.2.2.1.2.2.2.1 z3.2.2.2.2.2.2.1.2.2.2.2.1 z3.2.2.2.2.2.2.1.2.2.2.2.2.1 z3.2.2.2.2.2.2.1.2.2.2.2.2.2.1 z3.2.2.2.2.2.2.1.2.2.2.2.2.2.2.1 z3.2.2.2.2.2.2.2.1 y11.1).bind fun z4 =>
 (gbm z4.1.1 z4.1.2.1 1 3).bind fun y12 =>
 (gcf_8186 y12.2.1.1 y12.2.1.2.1 z4.2.1.1 z4.2.1.2.1 z4.2.1.2.2.1 z4.2.1.2.2.2.1 z4.2.1.2.2.2.2.1 z4.2.1.2.2.2.2.2.1 z4.2.1.2.2.2.2.2.2.1 z4.2.1.2.2.2.2.2.2.2.1 z4.2.2.1.1 z4.2.2.1.2.1 z4.2.2.2.1.1 z4.2.2.2.1.2.1 z4.2.2.2.2.1.1 z4.2.2.2.2.1.2.1 z4.2.2.2.2.2.1.1 z4.2.2.2.2.2.1.2.1 z4.2.2.2.2.2.2.1.1 z4.2.2.2.2.2.2.1.2.1 z4.2.2.2.2.2.2.1.2.2.1 z4.2.2.2.2.2.2.1.2.2.2.1 z4.2.2.2.2.2.2.1.2.2.2.2.1 z4.2.2.2.2.2.2.1.2.2.2.2.2.1 z4.2.2.2.2.2.2.1.2.2.2.2.2.2.1 z4.2.2.2.2.2.2.1.2.2.2.2.2.2.2.1 z4.2.2.2.2.2.2.2.1 y12.1).bind fun z5 =>
 some (z5.1, (z5.2.2.2.2.2.2.1.1, z5.2.2.2.2.2.2.1.2.1, z5.2.2.2.2.2.2.1.2.2.1, z5.2.2.2.2.2.2.1.2.2.2.1, z5.2.2.2.2.2.2.1.2.2.2.2.1, z5.2.2.2.2.2.2.1.2.2.2.2.2.1, z5.2.2.2.2.2.2.1.2.2.2.2.2.2.1, ([1, 2, 1, 3] : List Int), ()), z5.2.2.2.2.1, z5.2.2.2.2.2.1, ())
def gcf (x0 : List Int) (x1 : Int) : Option (((List (Int × Bool) × List Y1 × List (Int × Bool × Bool × List (Int × Int)) × List Y13 × List Y3 × List Y5 × List Y21 × List Int × Unit) × Y8 × Y8 × Unit) × (Y11 × Unit)) :=
 (gbz x0 x1).bind fun y13 =>
 bif ((y13.1.1.2.1.length : Int) == 0) then
  bif decide ((y13.1.1.1.length + 1) * 16 ≤ 140737488355328) then
  bif decide ((y13.1.2.2.1.1.length + 1) * 8 ≤ 140737488355328) then
  (gcf_31 y13.2.1.1 y13.2.1.2.1 ([] : List (Int × Bool)) ([] : List Y1) ([] : List (Int × Bool × Bool × List (Int × Int))) ([] : List Y13) ([] : List Y3) ([] : List Y5) ([] : List Y21) ([] : List Int) ([] : List Int) ([] : List Int) ([] : List Int) ([] : List Int) y13.1.1.2.1 y13.1.1.2.2.1 y13.1.1.2.2.2.1 y13.1.2.1.1 y13.1.2.1.2.1 (y13.1.2.2.1.1 ++ ([0] : List Int)) ([0] : List Int) (y13.1.1.1 ++ ([(0, true)] : List (Int × Bool))) ([(0, (wrap .i64 (((y13.1.1.1 ++ ([(0, true)] : List (Int × Bool))).length : Int) - 1)), 10, 4, false, false, 1, 1, 0, 0)] : List Y1) y13.1.1.2.2.1 y13.1.1.2.2.2.1 ([] : List Y3) ([] : List Y5) ([] : List Y21) ([] : List Int)).bind fun z6 =>
  some (z6.2, (z6.1, ()))
  else none
  else none
 else
  (gcf_31 y13.2.1.1 y13.2.1.2.1 ([] : List (Int × Bool)) ([] : List Y1) ([] : List (Int × Bool × Bool × List (Int × Int))) ([] : List Y13) ([] : List Y3) ([] : List Y5) ([] : List Y21) ([] : List Int) ([] : List Int) ([] : List Int) ([] : List Int) ([] : List Int) y13.1.1.2.1 y13.1.1.2.2.1 y13.1.1.2.2.2.1 y13.1.2.1.1 y13.1.2.1.2.1 y13.1.2.2.1.1 y13.1.2.2.1.2.1 y13.1.1.1 y13.1.1.2.1 y13.1.1.2.2.1 y13.1.1.2.2.2.1 ([] : List Y3) ([] : List Y5) ([] : List Y21) ([] : List Int)).bind fun z7 =>
  some (z7.2, (z7.1, ()))
def gcg (x0 : List Int) (x1 : Int) : Option (Int × (Y11 × Unit)) :=
 (gbk x0 x1 3).bind fun y0 =>
 some ((wrap .i64 (y0.1 - 1)), y0.2)
def gch (x0 x1 : Int) : Option (Int × Unit) :=
 bif decide (x1 < 1) then
  some (0, ())
 else
  bif (!decide (x1 = 0)) then
  bif decide ((Int.tmod x0 x1) < 0) then
   some ((wrap .i64 ((Int.tmod x0 x1) + x1)), ())
  else
   some ((Int.tmod x0 x1), ())
  else none
def gci (x0 x1 x2 x3 : Int) : Option (Bool × Unit) :=
 (bif decide (x2 ≤ x0) then some (decide (x0 ≤ x1)) else some false).bind fun b0 =>
 (bif b0 then some (decide (x1 ≤ x3)) else some false).bind fun b1 =>
 some (b1, ())
def gcj_58r (x0 : List (Int × Bool)) (x1 : List Y1) (x2 : Int) : Option (((List (Int × Bool) × List Y1 × Unit) × Int × Unit) ⊕ ((Int × Unit) ⊕ ((List (Int × Bool) × List Y1 × Unit) × Unit))) :=
 bif decide (x2 < (x0.length : Int)) then
  (idx x0 x2).bind fun v0 =>
  (bif decide (v0.1 < (-10000)) then some true else some (decide (v0.1 > 10000))).bind fun b0 =>
  bif b0 then
   some (.inr (.inl (1, ())))
  else
   some (.inl ((x0, x1, ()), (wrap .i64 (x2 + 1)), ()))
 else
  some (.inr (.inr ((x0, x1, ()), ())))
def gcj_58F (x : ((List (Int × Bool) × List Y1 × Unit) × Int × Unit)) := gcj_58r x.1.1 x.1.2.1 x.2.1
def gcj_58 (x0 : List (Int × Bool)) (x1 : List Y1) (x2 : Int) := loopL gcj_58F ((x0, x1, ()), x2, ())
def gcj_122r (x0 : List (Int × Bool)) (x1 : List Y1) (x2 : Int) : Option (((List (Int × Bool) × List Y1 × Unit) × Int × Unit) ⊕ ((Int × Unit) ⊕ (Unit))) :=
 bif decide (x2 < (x1.length : Int)) then
  (idx x1 x2).bind fun v1 =>
  (bif decide (v1.1 < 0) then some true else some (decide (v1.1 ≥ (x0.length : Int)))).bind fun b1 =>
  (bif b1 then some true else some (decide (v1.2.1 < 0))).bind fun b2 =>
  (bif b2 then some true else some (decide (v1.2.1 ≥ (x0.length : Int)))).bind fun b3 =>
  (bif b3 then some true else some (v1.1 == v1.2.1)).bind fun b4 =>
  bif b4 then
   some (.inr (.inl (4, ())))
  else
   (bif decide (v1.2.2.1 < 1) then some true else some (decide (v1.2.2.1 > 100000))).bind fun b5 =>
   (bif b5 then some true else some (decide (v1.2.2.2.1 < 1))).bind fun b6 =>
   (bif b6 then some true else some (decide (v1.2.2.2.1 > 1000))).bind fun b7 =>
   (bif b7 then some true else ((gci v1.2.2.2.2.2.2.1 v1.2.2.2.2.2.2.2.1 1 262144).bind fun y0 => some (!y0.1))).bind fun b8 =>
   (bif b8 then some true else ((gci v1.2.2.2.2.2.2.2.2.1 v1.2.2.2.2.2.2.2.2.2 (-2199023255552) 2199023255552).bind fun y1 => some (!y1.1))).bind fun b9 =>
   bif b9 then
    some (.inr (.inl (1, ())))
   else
    some (.inl ((x0, x1, ()), (wrap .i64 (x2 + 1)), ()))
 else
  some (.inr (.inr ()))
def gcj_122F (x : ((List (Int × Bool) × List Y1 × Unit) × Int × Unit)) := gcj_122r x.1.1 x.1.2.1 x.2.1
def gcj_122 (x0 : List (Int × Bool)) (x1 : List Y1) (x2 : Int) := loopL gcj_122F ((x0, x1, ()), x2, ())
def gcj (x0 : List (Int × Bool)) (x1 : List Y1) : Option (Int × Unit) :=
 (bif decide ((x0.length : Int) > 64) then some true else some (decide ((x1.length : Int) > 128))).bind fun b10 =>
 bif b10 then
  some (2, ())
 else
  (gcj_58 x0 x1 0).bind fun z0 =>
  sumElim z0 (fun z1 =>
   some (z1.1, ()))
   (fun z2 =>
   (gcj_122 z2.1.1 z2.1.2.1 0).bind fun z3 =>
   sumElim z3 (fun z4 =>
    some (z4.1, ()))
    (fun z5 =>
    some (0, ())))
def gck_122r (x0 : Int) (x1 x2 : Bool) (x3 : List (Int × Int)) (x4 : Int) : Option (((Int × Bool × Bool × List (Int × Int) × Unit) × Int × Unit) ⊕ ((Int × Unit) ⊕ (Unit))) :=
 bif decide (x4 < (x3.length : Int)) then
  (idx x3 x4).bind fun v0 =>
  (bif decide (v0.1 < (-1048576)) then some true else some (decide (v0.1 > 1048576))).bind fun b0 =>
  (bif b0 then some true else some (decide (v0.2 < 0))).bind fun b1 =>
  (bif b1 then some true else some (decide (v0.2 > 2199023255552))).bind fun b2 =>
  bif b2 then
   some (.inr (.inl (1, ())))
  else
   (bif decide (x4 > 0) then ((idx x3 (wrap .i64 (x4 - 1))).bind fun v1 => ((bif decide (v0.1 ≤ v1.1) then some true else ((idx x3 (wrap .i64 (x4 - 1))).bind fun v2 => some (decide (v0.2 > v2.2)))).bind fun b3 => some b3)) else some false).bind fun b4 =>
   bif b4 then
    some (.inr (.inl (14, ())))
   else
    some (.inl ((x0, x1, x2, x3, ()), (wrap .i64 (x4 + 1)), ()))
 else
  some (.inr (.inr ()))
def gck_122F (x : ((Int × Bool × Bool × List (Int × Int) × Unit) × Int × Unit)) := gck_122r x.1.1 x.1.2.1 x.1.2.2.1 x.1.2.2.2.1 x.2.1
def gck_122 (x0 : Int) (x1 x2 : Bool) (x3 : List (Int × Int)) (x4 : Int) := loopL gck_122F ((x0, x1, x2, x3, ()), x4, ())
def gck (x0 : Int) (x1 x2 : Bool) (x3 : List (Int × Int)) : Option (Int × Unit) :=
 bif decide (x0 < 0) then
  some (4, ())
 else
  (bif decide ((x3.length : Int) < 1) then some true else some (decide ((x3.length : Int) > 8))).bind fun b5 =>
  bif b5 then
   some (2, ())
  else
   (gck_122 x0 x1 x2 x3 0).bind fun z0 =>
   sumElim z0 (fun z1 =>
    some (z1.1, ()))
    (fun z2 =>
    some (0, ()))
def gcl_59706r (x0 : List Y13) (x1 x2 x3 : Int) (x4 : List Int) (x5 : Int) : Option (Y20 ⊕ ((Int × Unit) ⊕ (List Y13 × Int × Y7 × Unit))) :=
 bif decide (x5 < (x4.length : Int)) then
  (idx x4 x5).bind fun v0 =>
  (bif decide (v0 < 0) then some true else ((idx x4 x5).bind fun v1 => some (decide (v1 > 262144)))).bind fun b0 =>
  bif b0 then
   some (.inr (.inl (1, ())))
  else
   some (.inl (x0, x1, (x2, x3, x4, ()), (wrap .i64 (x5 + 1)), ()))
 else
  some (.inr (.inr (x0, x1, (x2, x3, x4, ()), ())))
def gcl_59706F (x : Y20) := gcl_59706r x.1 x.2.1 x.2.2.1.1 x.2.2.1.2.1 x.2.2.1.2.2.1 x.2.2.2.1
def gcl_59706 (x0 : List Y13) (x1 x2 x3 : Int) (x4 : List Int) (x5 : Int) := loopL gcl_59706F (x0, x1, (x2, x3, x4, ()), x5, ())
def gcl_119418r (x0 : List Y13) (x1 x2 x3 : Int) (x4 : List Int) (x5 : Int) : Option (Y20 ⊕ ((Int × Unit) ⊕ (List Y13 × Int × Y7 × Unit))) :=
 bif decide (x5 < (x4.length : Int)) then
  (idx x4 x5).bind fun v2 =>
  (idx x4 (wrap .i64 (x5 - 1))).bind fun v3 =>
  bif decide (v2 ≥ v3) then
   some (.inr (.inl (15, ())))
  else
   some (.inl (x0, x1, (x2, x3, x4, ()), (wrap .i64 (x5 + 1)), ()))
 else
  some (.inr (.inr (x0, x1, (x2, x3, x4, ()), ())))
def gcl_119418F (x : Y20) := gcl_119418r x.1 x.2.1 x.2.2.1.1 x.2.2.1.2.1 x.2.2.1.2.2.1 x.2.2.2.1
def gcl_119418 (x0 : List Y13) (x1 x2 x3 : Int) (x4 : List Int) (x5 : Int) := loopL gcl_119418F (x0, x1, (x2, x3, x4, ()), x5, ())
def gcl_58r (x0 : List Y13) (x1 : Int) : Option ((List Y13 × Int × Unit) ⊕ ((Int × Unit) ⊕ (Unit))) :=
 bif decide (x1 < (x0.length : Int)) then
  (idx x0 x1).bind fun v4 =>
  bif decide (v4.1 < 0) then
   some (.inr (.inl (4, ())))
  else
   (bif decide ((v4.2.2.length : Int) < 2) then some true else some (decide ((v4.2.2.length : Int) > 6))).bind fun b1 =>
   bif b1 then
    some (.inr (.inl (2, ())))
   else
    (gcl_59706 x0 x1 v4.1 v4.2.1 v4.2.2 0).bind fun z0 =>
    sumElim z0 (fun z1 =>
     some (.inr (.inl z1)))
     (fun z2 =>
     (gcl_119418 z2.1 z2.2.1 z2.2.2.1.1 z2.2.2.1.2.1 z2.2.2.1.2.2.1 1).bind fun z3 =>
     sumElim z3 (fun z4 =>
      some (.inr (.inl z4)))
      (fun z5 =>
      (bif (z5.2.2.1.2.1 != (-1)) then ((bif decide (z5.2.2.1.2.1 < 0) then some true else some (decide (z5.2.2.1.2.1 ≥ (z5.1.length : Int)))).bind fun b2 => ((bif b2 then some true else some (z5.2.2.1.2.1 == z5.2.1)).bind fun b3 => ((bif b3 then some true else ((idx z5.1 z5.2.2.1.2.1).bind fun v5 => some (v5.2.1 != z5.2.1))).bind fun b4 => some b4))) else some false).bind fun b5 =>
      bif b5 then
       some (.inr (.inl (15, ())))
      else
       some (.inl (z5.1, (wrap .i64 (z5.2.1 + 1)), ()))))
 else
  some (.inr (.inr ()))
def gcl_58F (x : (List Y13 × Int × Unit)) := gcl_58r x.1 x.2.1
def gcl_58 (x0 : List Y13) (x1 : Int) := loopL gcl_58F (x0, x1, ())
def gcl (x0 : List Y13) : Option (Int × Unit) :=
 bif decide ((x0.length : Int) > 16) then
  some (2, ())
 else
  (gcl_58 x0 0).bind fun z6 =>
  sumElim z6 (fun z7 =>
   some (z7.1, ()))
   (fun z8 =>
   some (0, ()))
def gcm_122r (x0 : List (Int × Bool)) (x1 : List Y1) (x2 : List (Int × Bool × Bool × List (Int × Int))) (x3 : List Y13) (x4 : Int) : Option (((List (Int × Bool) × List Y1 × List (Int × Bool × Bool × List (Int × Int)) × List Y13 × Unit) × Int × Unit) ⊕ ((Int × Unit) ⊕ ((List (Int × Bool) × List Y1 × List (Int × Bool × Bool × List (Int × Int)) × List Y13 × Unit) × Unit))) :=
 bif decide (x4 < (x2.length : Int)) then
  (idx x2 x4).bind fun v0 =>
  (gck v0.1 v0.2.1 v0.2.2.1 v0.2.2.2).bind fun y0 =>
  bif (y0.1 != 0) then
   some (.inr (.inl (y0.1, ())))
  else
   (idx x2 x4).bind fun v1 =>
   bif decide (v1.1 ≥ (x1.length : Int)) then
    some (.inr (.inl (4, ())))
   else
    some (.inl ((x0, x1, x2, x3, ()), (wrap .i64 (x4 + 1)), ()))
 else
  some (.inr (.inr ((x0, x1, x2, x3, ()), ())))
def gcm_122F (x : ((List (Int × Bool) × List Y1 × List (Int × Bool × Bool × List (Int × Int)) × List Y13 × Unit) × Int × Unit)) := gcm_122r x.1.1 x.1.2.1 x.1.2.2.1 x.1.2.2.2.1 x.2.1
def gcm_122 (x0 : List (Int × Bool)) (x1 : List Y1) (x2 : List (Int × Bool × Bool × List (Int × Int))) (x3 : List Y13) (x4 : Int) := loopL gcm_122F ((x0, x1, x2, x3, ()), x4, ())
def gcm_506r (x0 : List (Int × Bool)) (x1 : List Y1) (x2 : List (Int × Bool × Bool × List (Int × Int))) (x3 : List Y13) (x4 : Int) : Option (((List (Int × Bool) × List Y1 × List (Int × Bool × Bool × List (Int × Int)) × List Y13 × Unit) × Int × Unit) ⊕ ((Int × Unit) ⊕ (Unit))) :=
 bif decide (x4 < (x3.length : Int)) then
  (idx x3 x4).bind fun v2 =>
  bif decide (v2.1 ≥ (x1.length : Int)) then
   some (.inr (.inl (4, ())))
  else
   some (.inl ((x0, x1, x2, x3, ()), (wrap .i64 (x4 + 1)), ()))
 else
  some (.inr (.inr ()))
def gcm_506F (x : ((List (Int × Bool) × List Y1 × List (Int × Bool × Bool × List (Int × Int)) × List Y13 × Unit) × Int × Unit)) := gcm_506r x.1.1 x.1.2.1 x.1.2.2.1 x.1.2.2.2.1 x.2.1
def gcm_506 (x0 : List (Int × Bool)) (x1 : List Y1) (x2 : List (Int × Bool × Bool × List (Int × Int))) (x3 : List Y13) (x4 : Int) := loopL gcm_506F ((x0, x1, x2, x3, ()), x4, ())
def gcm (x0 : List (Int × Bool)) (x1 : List Y1) (x2 : List (Int × Bool × Bool × List (Int × Int))) (x3 : List Y13) : Option (Int × Unit) :=
 (gcj x0 x1).bind fun y1 =>
 bif (y1.1 != 0) then
  some (y1.1, ())
 else
  bif decide ((x2.length : Int) > 8) then
   some (2, ())
  else
   (gcm_122 x0 x1 x2 x3 0).bind fun z0 =>
   sumElim z0 (fun z1 =>
    some (z1.1, ()))
    (fun z2 =>
    (gcl z2.1.2.2.2.1).bind fun y2 =>
    bif (y2.1 != 0) then
     some (y2.1, ())
    else
     (gcm_506 z2.1.1 z2.1.2.1 z2.1.2.2.1 z2.1.2.2.2.1 0).bind fun z3 =>
     sumElim z3 (fun z4 =>
      some (z4.1, ()))
      (fun z5 =>
      some (0, ())))
def gcn (x0 x1 x2 : Int) : Option (Bool × Unit) :=
 (bif decide (x1 ≤ x0) then some (decide (x0 ≤ x2)) else some false).bind fun b0 =>
 some (b0, ())
def gco (x0 x1 x2 x3 x4 x5 x6 x7 : Int) : Option (Int × Unit) :=
 (gcn x1 1 6).bind fun y0 =>
 bif (!y0.1) then
  some (5, ())
 else
  (gcn x0 0 255).bind fun y1 =>
  (bif (!y1.1) then some true else some (decide (x2 < 0))).bind fun b0 =>
  (bif b0 then some true else ((gcn x3 (-1000000) 1000000).bind fun y2 => some (!y2.1))).bind fun b1 =>
  (bif b1 then some true else ((gcn x4 (-1000000) 1000000).bind fun y3 => some (!y3.1))).bind fun b2 =>
  (bif b2 then some true else ((gcn x5 0 1000000).bind fun y4 => some (!y4.1))).bind fun b3 =>
  (bif b3 then some true else ((gcn x6 0 1000000).bind fun y5 => some (!y5.1))).bind fun b4 =>
  (bif b4 then some true else ((gcn x7 1 1000000).bind fun y6 => some (!y6.1))).bind fun b5 =>
  bif b5 then
   some (1, ())
  else
   some (0, ())
def gcp_107774r (x0 : List (Int × Bool)) (x1 : List Y1) (x2 : List (Int × Bool × Bool × List (Int × Int))) (x3 : List Y13) (x4 : List Y3) (x5 : List Y5) (x6 : List Y21) (x7 : List Int) (x8 x9 x10 x11 x12 x13 x14 x15 x16 x17 : Int) : Option (((List (Int × Bool) × List Y1 × List (Int × Bool × Bool × List (Int × Int)) × List Y13 × List Y3 × List Y5 × List Y21 × List Int × Unit) × Int × Y2 × Int × Unit) ⊕ ((Int × Unit) ⊕ ((List (Int × Bool) × List Y1 × List (Int × Bool × Bool × List (Int × Int)) × List Y13 × List Y3 × List Y5 × List Y21 × List Int × Unit) × Int × Unit))) :=
 bif decide (x17 < x8) then
  (idx x4 x17).bind fun v0 =>
  bif (v0.1 == x9) then
   some (.inr (.inl (9, ())))
  else
   some (.inl ((x0, x1, x2, x3, x4, x5, x6, x7, ()), x8, (x9, x10, x11, x12, x13, x14, x15, x16, ()), (wrap .i64 (x17 + 1)), ()))
 else
  some (.inr (.inr ((x0, x1, x2, x3, x4, x5, x6, x7, ()), x8, ())))
def gcp_107774F (x : ((List (Int × Bool) × List Y1 × List (Int × Bool × Bool × List (Int × Int)) × List Y13 × List Y3 × List Y5 × List Y21 × List Int × Unit) × Int × Y2 × Int × Unit)) := gcp_107774r x.1.1 x.1.2.1 x.1.2.2.1 x.1.2.2.2.1 x.1.2.2.2.2.1 x.1.2.2.2.2.2.1 x.1.2.2.2.2.2.2.1 x.1.2.2.2.2.2.2.2.1 x.2.1 x.2.2.1.1 x.2.2.1.2.1 x.2.2.1.2.2.1 x.2.2.1.2.2.2.1 x.2.2.1.2.2.2.2.1 x.2.2.1.2.2.2.2.2.1 x.2.2.1.2.2.2.2.2.2.1 x.2.2.1.2.2.2.2.2.2.2.1 x.2.2.2.1
def gcp_107774 (x0 : List (Int × Bool)) (x1 : List Y1) (x2 : List (Int × Bool × Bool × List (Int × Int))) (x3 : List Y13) (x4 : List Y3) (x5 : List Y5) (x6 : List Y21) (x7 : List Int) (x8 x9 x10 x11 x12 x13 x14 x15 x16 x17 : Int) := loopL gcp_107774F ((x0, x1, x2, x3, x4, x5, x6, x7, ()), x8, (x9, x10, x11, x12, x13, x14, x15, x16, ()), x17, ())
def gcp_13471 (x0 : List (Int × Bool)) (x1 : List Y1) (x2 : List (Int × Bool × Bool × List (Int × Int))) (x3 : List Y13) (x4 : List Y3) (x5 : List Y5) (x6 : List Y21) (x7 : List Int) (x8 x9 x10 x11 x12 x13 x14 x15 x16 x17 : Int) : Option ((Int × Unit) ⊕ ((List (Int × Bool) × List Y1 × List (Int × Bool × Bool × List (Int × Int)) × List Y13 × List Y3 × List Y5 × List Y21 × List Int × Unit) × Int × Unit)) :=
 bif decide (x11 ≥ x17) then
  some (.inl (9, ()))
 else
  (gcp_107774 x0 x1 x2 x3 x4 x5 x6 x7 x8 x9 x10 x11 x12 x13 x14 x15 x16 0).bind fun z0 =>
  sumElim z0 (fun z1 =>
   some (.inl z1))
   (fun z2 =>
   some (.inr z2))
def gcp_6735 (x0 : List (Int × Bool)) (x1 : List Y1) (x2 : List (Int × Bool × Bool × List (Int × Int))) (x3 : List Y13) (x4 : List Y3) (x5 : List Y5) (x6 : List Y21) (x7 : List Int) (x8 x9 x10 x11 x12 x13 x14 x15 x16 x17 : Int) : Option ((Int × Unit) ⊕ ((List (Int × Bool) × List Y1 × List (Int × Bool × Bool × List (Int × Int)) × List Y13 × List Y3 × List Y5 × List Y21 × List Int × Unit) × Int × Unit)) :=
 bif (x10 == 6) then
  (gcp_13471 x0 x1 x2 x3 x4 x5 x6 x7 x8 x9 x10 x11 x12 x13 x14 x15 x16 (x3.length : Int)).bind fun z3 =>
  sumElim z3 (fun z4 =>
   some (.inl z4))
   (fun z5 =>
   some (.inr z5))
 else
  (gcp_13471 x0 x1 x2 x3 x4 x5 x6 x7 x8 x9 x10 x11 x12 x13 x14 x15 x16 x17).bind fun z6 =>
  sumElim z6 (fun z7 =>
   some (.inl z7))
   (fun z8 =>
   some (.inr z8))
def gcp_26r (x0 : List (Int × Bool)) (x1 : List Y1) (x2 : List (Int × Bool × Bool × List (Int × Int))) (x3 : List Y13) (x4 : List Y3) (x5 : List Y5) (x6 : List Y21) (x7 : List Int) (x8 : Int) : Option (((List (Int × Bool) × List Y1 × List (Int × Bool × Bool × List (Int × Int)) × List Y13 × List Y3 × List Y5 × List Y21 × List Int × Unit) × Int × Unit) ⊕ ((Int × Unit) ⊕ (Unit))) :=
 bif decide (x8 < (x4.length : Int)) then
  (idx x4 x8).bind fun v1 =>
  (gco v1.1 v1.2.1 v1.2.2.1 v1.2.2.2.1 v1.2.2.2.2.1 v1.2.2.2.2.2.1 v1.2.2.2.2.2.2.1 v1.2.2.2.2.2.2.2).bind fun y0 =>
  bif (y0.1 != 0) then
   some (.inr (.inl (y0.1, ())))
  else
   bif (v1.2.1 == 5) then
    (gcp_6735 x0 x1 x2 x3 x4 x5 x6 x7 x8 v1.1 v1.2.1 v1.2.2.1 v1.2.2.2.1 v1.2.2.2.2.1 v1.2.2.2.2.2.1 v1.2.2.2.2.2.2.1 v1.2.2.2.2.2.2.2 (x2.length : Int)).bind fun z9 =>
    sumElim z9 (fun z10 =>
     some (.inr (.inl z10)))
     (fun z11 =>
     some (.inl (z11.1, (wrap .i64 (z11.2.1 + 1)), ())))
   else
    (gcp_6735 x0 x1 x2 x3 x4 x5 x6 x7 x8 v1.1 v1.2.1 v1.2.2.1 v1.2.2.2.1 v1.2.2.2.2.1 v1.2.2.2.2.2.1 v1.2.2.2.2.2.2.1 v1.2.2.2.2.2.2.2 (x1.length : Int)).bind fun z12 =>
    sumElim z12 (fun z13 =>
     some (.inr (.inl z13)))
     (fun z14 =>
     some (.inl (z14.1, (wrap .i64 (z14.2.1 + 1)), ())))
 else
  some (.inr (.inr ()))
def gcp_26F (x : ((List (Int × Bool) × List Y1 × List (Int × Bool × Bool × List (Int × Int)) × List Y13 × List Y3 × List Y5 × List Y21 × List Int × Unit) × Int × Unit)) := gcp_26r x.1.1 x.1.2.1 x.1.2.2.1 x.1.2.2.2.1 x.1.2.2.2.2.1 x.1.2.2.2.2.2.1 x.1.2.2.2.2.2.2.1 x.1.2.2.2.2.2.2.2.1 x.2.1
def gcp_26 (x0 : List (Int × Bool)) (x1 : List Y1) (x2 : List (Int × Bool × Bool × List (Int × Int))) (x3 : List Y13) (x4 : List Y3) (x5 : List Y5) (x6 : List Y21) (x7 : List Int) (x8 : Int) := loopL gcp_26F ((x0, x1, x2, x3, x4, x5, x6, x7, ()), x8, ())
def gcp (x0 : List (Int × Bool)) (x1 : List Y1) (x2 : List (Int × Bool × Bool × List (Int × Int))) (x3 : List Y13) (x4 : List Y3) (x5 : List Y5) (x6 : List Y21) (x7 : List Int) : Option (Int × Unit) :=
 (gcp_26 x0 x1 x2 x3 x4 x5 x6 x7 0).bind fun z15 =>
 sumElim z15 (fun z16 =>
  some (z16.1, ()))
  (fun z17 =>
  some (0, ()))
def gcq (x0 x1 x2 : Int) : Option (Int × Unit) :=
 (bif decide (x1 < 0) then some true else some (decide (x1 ≥ x0))).bind fun b0 =>
 (bif b0 then some true else some (decide (x0 > 1000000))).bind fun b1 =>
 (bif b1 then some true else some (decide (x2 < 0))).bind fun b2 =>
 (bif b2 then some true else some (decide (x2 > 100000))).bind fun b3 =>
 bif b3 then
  some (1, ())
 else
  some (0, ())
def gcr_53 (x0 : List (Int × Bool)) (x1 : List Y1) (x2 : List (Int × Bool × Bool × List (Int × Int))) (x3 : List Y13) (x4 : List Y3) (x5 : List Y5) (x6 : List Y21) (x7 : List Int) (x8 x9 x10 x11 x12 x13 x14 : Int) (x15 : Bool) : Option ((Int × Unit) ⊕ (Y4 × Unit)) :=
 bif x15 then
  (bif decide (x9 < 0) then some true else some (decide (x9 ≥ (x4.length : Int)))).bind fun b0 =>
  (bif b0 then some true else ((bif (x8 == 3) then ((idx x4 x9).bind fun v0 => some (v0.2.1 != 5)) else some false).bind fun b1 => some b1)).bind fun b2 =>
  bif b2 then
   some (.inl (9, ()))
  else
   some (.inr ((x8, x9, x10, x11, x12, x13, ()), ()))
 else
  bif (x14 == 5) then
   (bif decide (x9 < 0) then some true else some (decide (x9 ≥ (x1.length : Int)))).bind fun b3 =>
   bif b3 then
    some (.inl (4, ()))
   else
    some (.inr ((x8, x9, x10, x11, x12, x13, ()), ()))
  else
   some (.inl (5, ()))
def gcr_7 (x0 x1 x2 x3 x4 x5 : Int) : Option (Int × Unit) :=
 (bif decide (x2 < 0) then some true else some (decide (x2 > 1099511627776))).bind fun b4 =>
 bif b4 then
  some (1, ())
 else
  bif (x0 == 1) then
   (gcq x3 x4 x5).bind fun y0 =>
   some (y0.1, ())
  else
   some (0, ())
def gcr (x0 : List (Int × Bool)) (x1 : List Y1) (x2 : List (Int × Bool × Bool × List (Int × Int))) (x3 : List Y13) (x4 : List Y3) (x5 : List Y5) (x6 : List Y21) (x7 : List Int) (x8 x9 x10 x11 x12 x13 : Int) : Option (Int × Unit) :=
 bif (x8 == 1) then
  (gcr_53 x0 x1 x2 x3 x4 x5 x6 x7 x8 x9 x10 x11 x12 x13 x8 (x8 == 1)).bind fun z0 =>
  sumElim z0 (fun z1 =>
   some (z1.1, ()))
   (fun z2 =>
   (gcr_7 z2.1.1 z2.1.2.1 z2.1.2.2.1 z2.1.2.2.2.1 z2.1.2.2.2.2.1 z2.1.2.2.2.2.2.1).bind fun z3 =>
   some (z3.1, ()))
 else
  bif (x8 == 2) then
   (gcr_53 x0 x1 x2 x3 x4 x5 x6 x7 x8 x9 x10 x11 x12 x13 x8 (x8 == 2)).bind fun z4 =>
   sumElim z4 (fun z5 =>
    some (z5.1, ()))
    (fun z6 =>
    (gcr_7 z6.1.1 z6.1.2.1 z6.1.2.2.1 z6.1.2.2.2.1 z6.1.2.2.2.2.1 z6.1.2.2.2.2.2.1).bind fun z7 =>
    some (z7.1, ()))
  else
   bif (x8 == 4) then
    (gcr_53 x0 x1 x2 x3 x4 x5 x6 x7 x8 x9 x10 x11 x12 x13 x8 (x8 == 4)).bind fun z8 =>
    sumElim z8 (fun z9 =>
     some (z9.1, ()))
     (fun z10 =>
     (gcr_7 z10.1.1 z10.1.2.1 z10.1.2.2.1 z10.1.2.2.2.1 z10.1.2.2.2.2.1 z10.1.2.2.2.2.2.1).bind fun z11 =>
     some (z11.1, ()))
   else
    (gcr_53 x0 x1 x2 x3 x4 x5 x6 x7 x8 x9 x10 x11 x12 x13 x8 (x8 == 3)).bind fun z12 =>
    sumElim z12 (fun z13 =>
     some (z13.1, ()))
     (fun z14 =>
     (gcr_7 z14.1.1 z14.1.2.1 z14.1.2.2.1 z14.1.2.2.2.1 z14.1.2.2.2.2.1 z14.1.2.2.2.2.2.1).bind fun z15 =>
     some (z15.1, ()))
def gcs_3935 (rec : Y25 → Option (Y14 × Unit)) (x0 : List Y12) (x1 x2 x3 x4 x5 : Int) (x6 : Bool) : Option (Y14 ⊕ (Unit)) :=
 bif x6 then
  (bif (x3 != 0) then some true else some (x5 != (wrap .i64 (x1 - 1)))).bind fun b0 =>
  bif b0 then
   some (.inl ((-1), 0, ()))
  else
   (rec (x0, (wrap .i64 (x1 - 1)), ())).bind fun y0 =>
   (bif decide (y0.1.1 < 1) then some true else some (x4 != (wrap .i64 (y0.1.1 - 1)))).bind fun b1 =>
   bif b1 then
    some (.inl ((-1), 0, ()))
   else
    (rec (x0, (wrap .i64 (y0.1.1 - 1)), ())).bind fun y1 =>
    some (.inl (y1.1.1, (wrap .i64 ((bif decide (y0.1.2.1 > y1.1.2.1) then y0.1.2.1 else y1.1.2.1) + 1)), ()))
 else
  some (.inr ())
def gcsb (rec : Y25 → Option (Y14 × Unit)) (x0 : List Y12) (x1 : Int) : Option (Y14 × Unit) :=
 (bif decide (x1 < 0) then some true else some (decide (x1 ≥ (x0.length : Int)))).bind fun b2 =>
 bif b2 then
  some (((-1), 0, ()), ())
 else
  (idx x0 x1).bind fun v0 =>
  bif (v0.1 == 1) then
   (bif decide (v0.2.1 < 0) then some true else some (decide (v0.2.1 ≥ 64))).bind fun b3 =>
   (bif b3 then some true else some (v0.2.2.1 != 0)).bind fun b4 =>
   (bif b4 then some true else some (v0.2.2.2 != 0)).bind fun b5 =>
   bif b5 then
    some (((-1), 0, ()), ())
   else
    some ((x1, 1, ()), ())
  else
   bif (v0.1 == 2) then
    (bif (v0.2.1 != 0) then some true else some (v0.2.2.2 != 0)).bind fun b6 =>
    (bif b6 then some true else some (v0.2.2.1 != (wrap .i64 (x1 - 1)))).bind fun b7 =>
    bif b7 then
     some (((-1), 0, ()), ())
    else
     (rec (x0, (wrap .i64 (x1 - 1)), ())).bind fun y2 =>
     some ((y2.1.1, (wrap .i64 (y2.1.2.1 + 1)), ()), ())
   else
    bif (v0.1 == 3) then
     (gcs_3935 rec x0 x1 v0.1 v0.2.1 v0.2.2.1 v0.2.2.2 (v0.1 == 3)).bind fun z0 =>
     sumElim z0 (fun z1 =>
      some (z1, ()))
      (fun z2 =>
      some (((-1), 0, ()), ()))
    else
     (gcs_3935 rec x0 x1 v0.1 v0.2.1 v0.2.2.1 v0.2.2.2 (v0.1 == 4)).bind fun z3 =>
     sumElim z3 (fun z4 =>
      some (z4, ()))
      (fun z5 =>
      some (((-1), 0, ()), ()))
def gcsi : Nat → Y25 → Option (Y14 × Unit)
 | 0 => fun _ => none
 | n + 1 => fun x => gcsb (gcsi n) x.1 x.2.1
def gcs (x0 : List Y12) (x1 : Int) : Option (Y14 × Unit) := gcsi 1000000 (x0, x1, ())
def gct (x0 : List Y12) : Option (Bool × Unit) :=
 (bif decide ((x0.length : Int) < 1) then some true else some (decide ((x0.length : Int) > 64))).bind fun b0 =>
 bif b0 then
  some (false, ())
 else
  (gcs x0 (wrap .i64 ((x0.length : Int) - 1))).bind fun y0 =>
  (bif (y0.1.1 == 0) then some (decide (y0.1.2.1 ≤ 16)) else some false).bind fun b1 =>
  some (b1, ())
def gcu_58r (x0 : List Y12) (x1 x2 : Int) : Option ((List Y12 × Int × Int × Unit) ⊕ ((Int × Unit) ⊕ (Unit))) :=
 bif decide (x2 < (x0.length : Int)) then
  (idx x0 x2).bind fun v0 =>
  (bif (v0.1 == 1) then ((idx x0 x2).bind fun v1 => some (decide (v1.2.1 ≥ x1))) else some false).bind fun b0 =>
  bif b0 then
   some (.inr (.inl (1, ())))
  else
   some (.inl (x0, x1, (wrap .i64 (x2 + 1)), ()))
 else
  some (.inr (.inr ()))
def gcu_58F (x : (List Y12 × Int × Int × Unit)) := gcu_58r x.1 x.2.1 x.2.2.1
def gcu_58 (x0 : List Y12) (x1 x2 : Int) := loopL gcu_58F (x0, x1, x2, ())
def gcu (x0 : List Y12) (x1 : Int) : Option (Int × Unit) :=
 (gct x0).bind fun y0 =>
 bif (!y0.1) then
  some (18, ())
 else
  (gcu_58 x0 x1 0).bind fun z0 =>
  sumElim z0 (fun z1 =>
   some (z1.1, ()))
   (fun z2 =>
   some (0, ()))
def gcv_122r (x0 : List (Int × Bool)) (x1 : List Y1) (x2 : List (Int × Bool × Bool × List (Int × Int))) (x3 : List Y13) (x4 : List Y3) (x5 : List Y5) (x6 : List Y21) (x7 : List Int) (x8 : List Y12) (x9 : Int) (x10 : List Int) (x11 x12 : Int) : Option (((List (Int × Bool) × List Y1 × List (Int × Bool × Bool × List (Int × Int)) × List Y13 × List Y3 × List Y5 × List Y21 × List Int × Unit) × Y17 × Int × Unit) ⊕ ((Int × Unit) ⊕ (Unit))) :=
 bif decide (x12 < (x10.length : Int)) then
  (idx x10 x12).bind fun v0 =>
  (bif decide (v0 < 0) then some true else ((idx x10 x12).bind fun v1 => some (decide (v1 ≥ (x1.length : Int))))).bind fun b0 =>
  (bif b0 then some true else ((bif decide (x12 > 0) then ((idx x10 x12).bind fun v2 => ((idx x10 (wrap .i64 (x12 - 1))).bind fun v3 => some (decide (v2 ≤ v3)))) else some false).bind fun b1 => some b1)).bind fun b2 =>
  bif b2 then
   some (.inr (.inl (4, ())))
  else
   some (.inl ((x0, x1, x2, x3, x4, x5, x6, x7, ()), (x8, x9, x10, x11, ()), (wrap .i64 (x12 + 1)), ()))
 else
  some (.inr (.inr ()))
def gcv_122F (x : ((List (Int × Bool) × List Y1 × List (Int × Bool × Bool × List (Int × Int)) × List Y13 × List Y3 × List Y5 × List Y21 × List Int × Unit) × Y17 × Int × Unit)) := gcv_122r x.1.1 x.1.2.1 x.1.2.2.1 x.1.2.2.2.1 x.1.2.2.2.2.1 x.1.2.2.2.2.2.1 x.1.2.2.2.2.2.2.1 x.1.2.2.2.2.2.2.2.1 x.2.1.1 x.2.1.2.1 x.2.1.2.2.1 x.2.1.2.2.2.1 x.2.2.1
def gcv_122 (x0 : List (Int × Bool)) (x1 : List Y1) (x2 : List (Int × Bool × Bool × List (Int × Int))) (x3 : List Y13) (x4 : List Y3) (x5 : List Y5) (x6 : List Y21) (x7 : List Int) (x8 : List Y12) (x9 : Int) (x10 : List Int) (x11 x12 : Int) := loopL gcv_122F ((x0, x1, x2, x3, x4, x5, x6, x7, ()), (x8, x9, x10, x11, ()), x12, ())
def gcv (x0 : List (Int × Bool)) (x1 : List Y1) (x2 : List (Int × Bool × Bool × List (Int × Int))) (x3 : List Y13) (x4 : List Y3) (x5 : List Y5) (x6 : List Y21) (x7 : List Int) (x8 : List Y12) (x9 : Int) (x10 : List Int) (x11 : Int) : Option (Int × Unit) :=
 (gcu x8 (x5.length : Int)).bind fun y0 =>
 bif (y0.1 != 0) then
  some (y0.1, ())
 else
  (bif decide (x9 < 0) then some true else some (decide (x9 > 100000))).bind fun b3 =>
  (bif b3 then some true else some (decide (x11 < 0))).bind fun b4 =>
  (bif b4 then some true else some (decide (x11 > 100))).bind fun b5 =>
  bif b5 then
   some (1, ())
  else
   (gcv_122 x0 x1 x2 x3 x4 x5 x6 x7 x8 x9 x10 x11 0).bind fun z0 =>
   sumElim z0 (fun z1 =>
    some (z1.1, ()))
    (fun z2 =>
    some (0, ()))
def gcw_250r (x0 : List (Int × Bool)) (x1 : List Y1) (x2 : List (Int × Bool × Bool × List (Int × Int))) (x3 : List Y13) (x4 : List Y3) (x5 : List Y5) (x6 : List Y21) (x7 : List Int) (x8 : Int) : Option (((List (Int × Bool) × List Y1 × List (Int × Bool × Bool × List (Int × Int)) × List Y13 × List Y3 × List Y5 × List Y21 × List Int × Unit) × Int × Unit) ⊕ ((Int × Unit) ⊕ ((List (Int × Bool) × List Y1 × List (Int × Bool × Bool × List (Int × Int)) × List Y13 × List Y3 × List Y5 × List Y21 × List Int × Unit) × Unit))) :=
 bif decide (x8 < (x5.length : Int)) then
  (idx x5 x8).bind fun v0 =>
  (gcr x0 x1 x2 x3 x4 x5 x6 x7 v0.1 v0.2.1 v0.2.2.1 v0.2.2.2.1 v0.2.2.2.2.1 v0.2.2.2.2.2).bind fun y0 =>
  bif (y0.1 != 0) then
   some (.inr (.inl (y0.1, ())))
  else
   some (.inl ((x0, x1, x2, x3, x4, x5, x6, x7, ()), (wrap .i64 (x8 + 1)), ()))
 else
  some (.inr (.inr ((x0, x1, x2, x3, x4, x5, x6, x7, ()), ())))
def gcw_250F (x : ((List (Int × Bool) × List Y1 × List (Int × Bool × Bool × List (Int × Int)) × List Y13 × List Y3 × List Y5 × List Y21 × List Int × Unit) × Int × Unit)) := gcw_250r x.1.1 x.1.2.1 x.1.2.2.1 x.1.2.2.2.1 x.1.2.2.2.2.1 x.1.2.2.2.2.2.1 x.1.2.2.2.2.2.2.1 x.1.2.2.2.2.2.2.2.1 x.2.1
def gcw_250 (x0 : List (Int × Bool)) (x1 : List Y1) (x2 : List (Int × Bool × Bool × List (Int × Int))) (x3 : List Y13) (x4 : List Y3) (x5 : List Y5) (x6 : List Y21) (x7 : List Int) (x8 : Int) := loopL gcw_250F ((x0, x1, x2, x3, x4, x5, x6, x7, ()), x8, ())
def gcw_506r (x0 : List (Int × Bool)) (x1 : List Y1) (x2 : List (Int × Bool × Bool × List (Int × Int))) (x3 : List Y13) (x4 : List Y3) (x5 : List Y5) (x6 : List Y21) (x7 : List Int) (x8 : Int) : Option (((List (Int × Bool) × List Y1 × List (Int × Bool × Bool × List (Int × Int)) × List Y13 × List Y3 × List Y5 × List Y21 × List Int × Unit) × Int × Unit) ⊕ ((Int × Unit) ⊕ ((List (Int × Bool) × List Y1 × List (Int × Bool × Bool × List (Int × Int)) × List Y13 × List Y3 × List Y5 × List Y21 × List Int × Unit) × Unit))) :=
 bif decide (x8 < (x6.length : Int)) then
  (idx x6 x8).bind fun v1 =>
  (gcv x0 x1 x2 x3 x4 x5 x6 x7 v1.1 v1.2.1 v1.2.2.1 v1.2.2.2).bind fun y1 =>
  bif (y1.1 != 0) then
   some (.inr (.inl (y1.1, ())))
  else
   some (.inl ((x0, x1, x2, x3, x4, x5, x6, x7, ()), (wrap .i64 (x8 + 1)), ()))
 else
  some (.inr (.inr ((x0, x1, x2, x3, x4, x5, x6, x7, ()), ())))
def gcw_506F (x : ((List (Int × Bool) × List Y1 × List (Int × Bool × Bool × List (Int × Int)) × List Y13 × List Y3 × List Y5 × List Y21 × List Int × Unit) × Int × Unit)) := gcw_506r x.1.1 x.1.2.1 x.1.2.2.1 x.1.2.2.2.1 x.1.2.2.2.2.1 x.1.2.2.2.2.2.1 x.1.2.2.2.2.2.2.1 x.1.2.2.2.2.2.2.2.1 x.2.1
def gcw_506 (x0 : List (Int × Bool)) (x1 : List Y1) (x2 : List (Int × Bool × Bool × List (Int × Int))) (x3 : List Y13) (x4 : List Y3) (x5 : List Y5) (x6 : List Y21) (x7 : List Int) (x8 : Int) := loopL gcw_506F ((x0, x1, x2, x3, x4, x5, x6, x7, ()), x8, ())
def gcw_1018r (x0 : List (Int × Bool)) (x1 : List Y1) (x2 : List (Int × Bool × Bool × List (Int × Int))) (x3 : List Y13) (x4 : List Y3) (x5 : List Y5) (x6 : List Y21) (x7 : List Int) (x8 : Int) : Option (((List (Int × Bool) × List Y1 × List (Int × Bool × Bool × List (Int × Int)) × List Y13 × List Y3 × List Y5 × List Y21 × List Int × Unit) × Int × Unit) ⊕ ((Int × Unit) ⊕ (Unit))) :=
 bif decide (x8 < (x7.length : Int)) then
  (idx x7 x8).bind fun v2 =>
  (bif decide (v2 < 1) then some true else ((idx x7 x8).bind fun v3 => some (decide (v3 > 3)))).bind fun b0 =>
  bif b0 then
   some (.inr (.inl (19, ())))
  else
   some (.inl ((x0, x1, x2, x3, x4, x5, x6, x7, ()), (wrap .i64 (x8 + 1)), ()))
 else
  some (.inr (.inr ()))
def gcw_1018F (x : ((List (Int × Bool) × List Y1 × List (Int × Bool × Bool × List (Int × Int)) × List Y13 × List Y3 × List Y5 × List Y21 × List Int × Unit) × Int × Unit)) := gcw_1018r x.1.1 x.1.2.1 x.1.2.2.1 x.1.2.2.2.1 x.1.2.2.2.2.1 x.1.2.2.2.2.2.1 x.1.2.2.2.2.2.2.1 x.1.2.2.2.2.2.2.2.1 x.2.1
def gcw_1018 (x0 : List (Int × Bool)) (x1 : List Y1) (x2 : List (Int × Bool × Bool × List (Int × Int))) (x3 : List Y13) (x4 : List Y3) (x5 : List Y5) (x6 : List Y21) (x7 : List Int) (x8 : Int) := loopL gcw_1018F ((x0, x1, x2, x3, x4, x5, x6, x7, ()), x8, ())
def gcw (x0 : List (Int × Bool)) (x1 : List Y1) (x2 : List (Int × Bool × Bool × List (Int × Int))) (x3 : List Y13) (x4 : List Y3) (x5 : List Y5) (x6 : List Y21) (x7 : List Int) : Option (Int × Unit) :=
 (gcm x0 x1 x2 x3).bind fun y2 =>
 bif (y2.1 != 0) then
  some (y2.1, ())
 else
  (bif decide ((x4.length : Int) > 64) then some true else some (decide ((x5.length : Int) > 64))).bind fun b1 =>
  (bif b1 then some true else some (decide ((x6.length : Int) > 16))).bind fun b2 =>
  (bif b2 then some true else some (decide ((x7.length : Int) > 64))).bind fun b3 =>
  bif b3 then
   some (2, ())
  else
   (gcp x0 x1 x2 x3 x4 x5 x6 x7).bind fun y3 =>
   bif (y3.1 != 0) then
    some (y3.1, ())
   else
    (gcw_250 x0 x1 x2 x3 x4 x5 x6 x7 0).bind fun z0 =>
    sumElim z0 (fun z1 =>
     some (z1.1, ()))
     (fun z2 =>
     (gcw_506 z2.1.1 z2.1.2.1 z2.1.2.2.1 z2.1.2.2.2.1 z2.1.2.2.2.2.1 z2.1.2.2.2.2.2.1 z2.1.2.2.2.2.2.2.1 z2.1.2.2.2.2.2.2.2.1 0).bind fun z3 =>
     sumElim z3 (fun z4 =>
      some (z4.1, ()))
      (fun z5 =>
      (gcw_1018 z5.1.1 z5.1.2.1 z5.1.2.2.1 z5.1.2.2.2.1 z5.1.2.2.2.2.1 z5.1.2.2.2.2.2.1 z5.1.2.2.2.2.2.2.1 z5.1.2.2.2.2.2.2.2.1 0).bind fun z6 =>
      sumElim z6 (fun z7 =>
       some (z7.1, ()))
       (fun z8 =>
       some (0, ()))))
def gcxb (rec : (List Y12 × List Int × Int × Unit) → Option (Int × Unit)) (x0 : List Y12) (x1 : List Int) (x2 : Int) : Option (Int × Unit) :=
 (idx x0 x2).bind fun v0 =>
 bif (v0.1 == 1) then
  (bif decide (v0.2.1 ≥ (x1.length : Int)) then some true else ((idx x1 v0.2.1).bind fun v1 => some (decide (v1 < (-1))))).bind fun b0 =>
  (bif b0 then some true else ((idx x1 v0.2.1).bind fun v2 => some (decide (v2 > 1)))).bind fun b1 =>
  bif b1 then
   some (0, ())
  else
   (idx x1 v0.2.1).bind fun v3 =>
   some (v3, ())
 else
  bif (v0.1 == 2) then
   (rec (x0, x1, v0.2.2.1, ())).bind fun y0 =>
   some ((wrap .i64 (0 - y0.1)), ())
  else
   bif (v0.1 == 3) then
    (rec (x0, x1, v0.2.2.1, ())).bind fun y1 =>
    (rec (x0, x1, v0.2.2.2, ())).bind fun y2 =>
    some ((bif decide (y2.1 < y1.1) then y2.1 else y1.1), ())
   else
    (rec (x0, x1, v0.2.2.1, ())).bind fun y3 =>
    (rec (x0, x1, v0.2.2.2, ())).bind fun y4 =>
    some ((bif decide (y4.1 > y3.1) then y4.1 else y3.1), ())
def gcxi : Nat → (List Y12 × List Int × Int × Unit) → Option (Int × Unit)
 | 0 => fun _ => none
 | n + 1 => fun x => gcxb (gcxi n) x.1 x.2.1 x.2.2.1
def gcx (x0 : List Y12) (x1 : List Int) (x2 : Int) : Option (Int × Unit) := gcxi 1000000 (x0, x1, x2, ())
def gcy (x0 : List Y12) (x1 : List Int) : Option (Int × Unit) :=
 (gct x0).bind fun y0 =>
 bif (!y0.1) then
  some (0, ())
 else
  (gcx x0 x1 (wrap .i64 ((x0.length : Int) - 1))).bind fun y1 =>
  some (y1.1, ())
def gcz_1018r (x0 : List Int) (x1 : Int) (x2 : List (Int × Bool)) (x3 : List Y1) (x4 : List (Int × Bool × Bool × List (Int × Int))) (x5 : List Y13) (x6 : List Y3) (x7 : List Y5) (x8 : List Y21) (x9 : List Int) (x10 : List Y15) (x11 : List Int) (x12 : Int) : Option ((List Int × Int × (List (Int × Bool) × List Y1 × List (Int × Bool × Bool × List (Int × Int)) × List Y13 × List Y3 × List Y5 × List Y21 × List Int × Unit) × List Y15 × List Int × Int × Unit) ⊕ (List Y15 × List Int × Unit)) :=
 bif decide (x12 < (x10.length : Int)) then
  (idx x8 x12).bind fun v0 =>
  (gcy v0.1 x0).bind fun y0 =>
  bif (y0.1 == (-1)) then
   bif (decide (0 ≤ x12) && decide (x12 < (x10.length : Int))) then
   (x10[x12.toNat]?).bind fun v1 =>
   bif (v1.2.1 == (-1)) then
    bif (decide (0 ≤ x12) && decide (x12 < (x10.length : Int))) then
    (x10[x12.toNat]?).bind fun v2 =>
    some (.inl (x0, x1, (x2, x3, x4, x5, x6, x7, x8, x9, ()), (x10).set x12.toNat (v2.1, x1, v2.2.2), x11, (wrap .i64 (x12 + 1)), ()))
    else none
   else
    some (.inl (x0, x1, (x2, x3, x4, x5, x6, x7, x8, x9, ()), x10, x11, (wrap .i64 (x12 + 1)), ()))
   else none
  else
   bif (decide (0 ≤ x12) && decide (x12 < (x10.length : Int))) then
   (x10[x12.toNat]?).bind fun v3 =>
   bif (decide (0 ≤ x12) && decide (x12 < (((x10).set x12.toNat (v3.1, (-1), v3.2.2)).length : Int))) then
   (((x10).set x12.toNat (v3.1, (-1), v3.2.2))[x12.toNat]?).bind fun v4 =>
   bif (!v4.1) then
    bif (decide (0 ≤ x12) && decide (x12 < (((x10).set x12.toNat (v3.1, (-1), v3.2.2)).length : Int))) then
    (((x10).set x12.toNat (v3.1, (-1), v3.2.2))[x12.toNat]?).bind fun v5 =>
    bif (decide (0 ≤ x12) && decide (x12 < ((((x10).set x12.toNat (v3.1, (-1), v3.2.2)).set x12.toNat (true, v5.2.1, v5.2.2)).length : Int))) then
    ((((x10).set x12.toNat (v3.1, (-1), v3.2.2)).set x12.toNat (true, v5.2.1, v5.2.2))[x12.toNat]?).bind fun v6 =>
    bif decide ((x11.length + 1) * 8 ≤ 140737488355328) then
    some (.inl (x0, x1, (x2, x3, x4, x5, x6, x7, x8, x9, ()), (((x10).set x12.toNat (v3.1, (-1), v3.2.2)).set x12.toNat (true, v5.2.1, v5.2.2)).set x12.toNat (v6.1, v6.2.1, y0.1), (x11 ++ ([x12] : List Int)), (wrap .i64 (x12 + 1)), ()))
    else none
    else none
    else none
   else
    some (.inl (x0, x1, (x2, x3, x4, x5, x6, x7, x8, x9, ()), (x10).set x12.toNat (v3.1, (-1), v3.2.2), x11, (wrap .i64 (x12 + 1)), ()))
   else none
   else none
 else
  some (.inr (x10, x11, ()))
def gcz_1018F (x : (List Int × Int × (List (Int × Bool) × List Y1 × List (Int × Bool × Bool × List (Int × Int)) × List Y13 × List Y3 × List Y5 × List Y21 × List Int × Unit) × List Y15 × List Int × Int × Unit)) := gcz_1018r x.1 x.2.1 x.2.2.1.1 x.2.2.1.2.1 x.2.2.1.2.2.1 x.2.2.1.2.2.2.1 x.2.2.1.2.2.2.2.1 x.2.2.1.2.2.2.2.2.1 x.2.2.1.2.2.2.2.2.2.1 x.2.2.1.2.2.2.2.2.2.2.1 x.2.2.2.1 x.2.2.2.2.1 x.2.2.2.2.2.1
def gcz_1018 (x0 : List Int) (x1 : Int) (x2 : List (Int × Bool)) (x3 : List Y1) (x4 : List (Int × Bool × Bool × List (Int × Int))) (x5 : List Y13) (x6 : List Y3) (x7 : List Y5) (x8 : List Y21) (x9 : List Int) (x10 : List Y15) (x11 : List Int) (x12 : Int) := loopL gcz_1018F (x0, x1, (x2, x3, x4, x5, x6, x7, x8, x9, ()), x10, x11, x12, ())
def gcz (x0 : List (Int × Bool)) (x1 : List Y1) (x2 : List (Int × Bool × Bool × List (Int × Int))) (x3 : List Y13) (x4 : List Y3) (x5 : List Y5) (x6 : List Y21) (x7 x8 : List Int) (x9 : List Y15) (x10 : Int) : Option ((List Y15 × List Int × Int × Unit) × Unit) :=
 (gcw x0 x1 x2 x3 x4 x5 x6 x7).bind fun y1 =>
 bif (y1.1 != 0) then
  some ((([] : List Y15), ([] : List Int), y1.1, ()), ())
 else
  (bif ((x8.length : Int) != (x5.length : Int)) then some true else some ((x9.length : Int) != (x6.length : Int))).bind fun b0 =>
  bif b0 then
   some ((([] : List Y15), ([] : List Int), 11, ()), ())
  else
   (bif decide (x10 < 0) then some true else some (decide (x10 > 2147483648))).bind fun b1 =>
   bif b1 then
    some ((([] : List Y15), ([] : List Int), 8, ()), ())
   else
    bif decide ((0 + x9.length) * 24 ≤ 140737488355328) then
    (gcz_1018 x8 x10 x0 x1 x2 x3 x4 x5 x6 x7 x9 ([] : List Int) 0).bind fun z0 =>
    some ((z0.1, z0.2.1, 0, ()), ())
    else none
def gda_58r (x0 x1 : List Y15) (x2 : Int) : Option ((List Y15 × List Y15 × Int × Unit) ⊕ ((Bool × Unit) ⊕ (Unit))) :=
 bif decide (x2 < (x0.length : Int)) then
  (idx x0 x2).bind fun v0 =>
  (idx x1 x2).bind fun v1 =>
  bif (!((v0.1 == v1.1) && ((v0.2.1 == v1.2.1) && ((v0.2.2 == v1.2.2) && true)))) then
   some (.inr (.inl (false, ())))
  else
   some (.inl (x0, x1, (wrap .i64 (x2 + 1)), ()))
 else
  some (.inr (.inr ()))
def gda_58F (x : (List Y15 × List Y15 × Int × Unit)) := gda_58r x.1 x.2.1 x.2.2.1
def gda_58 (x0 x1 : List Y15) (x2 : Int) := loopL gda_58F (x0, x1, x2, ())
def gda (x0 x1 : List Y15) : Option (Bool × Unit) :=
 bif ((x0.length : Int) != (x1.length : Int)) then
  some (false, ())
 else
  (gda_58 x0 x1 0).bind fun z0 =>
  sumElim z0 (fun z1 =>
   some (z1.1, ()))
   (fun z2 =>
   some (true, ()))
def gdb_506r (x0 : List Int) (x1 : List Y15) (x2 : Int) (x3 : List Int) (x4 : Int) (x5 : List (Int × Bool)) (x6 : List Y1) (x7 : List (Int × Bool × Bool × List (Int × Int))) (x8 : List Y13) (x9 : List Y3) (x10 : List Y5) (x11 : List Y21) (x12 x13 : List Int) (x14 x15 : Int) : Option ((List Int × List Y15 × Int × Y11 × (List (Int × Bool) × List Y1 × List (Int × Bool × Bool × List (Int × Int)) × List Y13 × List Y3 × List Y5 × List Y21 × List Int × Unit) × List Int × Int × Int × Unit) ⊕ (List Int × List Y15 × Int × Y11 × (List (Int × Bool) × List Y1 × List (Int × Bool × Bool × List (Int × Int)) × List Y13 × List Y3 × List Y5 × List Y21 × List Int × Unit) × List Int × Unit)) :=
 bif decide (x15 < x14) then
  (gcg x3 x4).bind fun y0 =>
  bif decide ((x13.length + 1) * 8 ≤ 140737488355328) then
  some (.inl (x0, x1, x2, y0.2.1, (x5, x6, x7, x8, x9, x10, x11, x12, ()), (x13 ++ ([y0.1] : List Int)), x14, (wrap .i64 (x15 + 1)), ()))
  else none
 else
  some (.inr (x0, x1, x2, (x3, x4, ()), (x5, x6, x7, x8, x9, x10, x11, x12, ()), x13, ()))
def gdb_506F (x : (List Int × List Y15 × Int × Y11 × (List (Int × Bool) × List Y1 × List (Int × Bool × Bool × List (Int × Int)) × List Y13 × List Y3 × List Y5 × List Y21 × List Int × Unit) × List Int × Int × Int × Unit)) := gdb_506r x.1 x.2.1 x.2.2.1 x.2.2.2.1.1 x.2.2.2.1.2.1 x.2.2.2.2.1.1 x.2.2.2.2.1.2.1 x.2.2.2.2.1.2.2.1 x.2.2.2.2.1.2.2.2.1 x.2.2.2.2.1.2.2.2.2.1 x.2.2.2.2.1.2.2.2.2.2.1 x.2.2.2.2.1.2.2.2.2.2.2.1 x.2.2.2.2.1.2.2.2.2.2.2.2.1 x.2.2.2.2.2.1 x.2.2.2.2.2.2.1 x.2.2.2.2.2.2.2.1
def gdb_506 (x0 : List Int) (x1 : List Y15) (x2 : Int) (x3 : List Int) (x4 : Int) (x5 : List (Int × Bool)) (x6 : List Y1) (x7 : List (Int × Bool × Bool × List (Int × Int))) (x8 : List Y13) (x9 : List Y3) (x10 : List Y5) (x11 : List Y21) (x12 x13 : List Int) (x14 x15 : Int) := loopL gdb_506F (x0, x1, x2, (x3, x4, ()), (x5, x6, x7, x8, x9, x10, x11, x12, ()), x13, x14, x15, ())
def gdb_2042r (x0 : List Int) (x1 : List Y15) (x2 : Int) (x3 : List Int) (x4 : Int) (x5 : List (Int × Bool)) (x6 : List Y1) (x7 : List (Int × Bool × Bool × List (Int × Int))) (x8 : List Y13) (x9 : List Y3) (x10 : List Y5) (x11 : List Y21) (x12 x13 : List Int) (x14 : List Y15) (x15 x16 : Int) : Option ((List Int × List Y15 × Int × Y11 × (List (Int × Bool) × List Y1 × List (Int × Bool × Bool × List (Int × Int)) × List Y13 × List Y3 × List Y5 × List Y21 × List Int × Unit) × List Int × List Y15 × Int × Int × Unit) ⊕ (List Int × List Y15 × Int × (List (Int × Bool) × List Y1 × List (Int × Bool × Bool × List (Int × Int)) × List Y13 × List Y3 × List Y5 × List Y21 × List Int × Unit) × List Int × List Y15 × Unit)) :=
 bif decide (x16 < x15) then
  (gbl x3 x4 2).bind fun y1 =>
  (gbm y1.2.1.1 y1.2.1.2.1 (-1) 9).bind fun y2 =>
  bif decide ((x14.length + 1) * 24 ≤ 140737488355328) then
  some (.inl (x0, x1, x2, y2.2.1, (x5, x6, x7, x8, x9, x10, x11, x12, ()), x13, (x14 ++ ([(y1.1, y2.1, 0)] : List Y15)), x15, (wrap .i64 (x16 + 1)), ()))
  else none
 else
  some (.inr (x0, x1, x2, (x5, x6, x7, x8, x9, x10, x11, x12, ()), x13, x14, ()))
def gdb_2042F (x : (List Int × List Y15 × Int × Y11 × (List (Int × Bool) × List Y1 × List (Int × Bool × Bool × List (Int × Int)) × List Y13 × List Y3 × List Y5 × List Y21 × List Int × Unit) × List Int × List Y15 × Int × Int × Unit)) := gdb_2042r x.1 x.2.1 x.2.2.1 x.2.2.2.1.1 x.2.2.2.1.2.1 x.2.2.2.2.1.1 x.2.2.2.2.1.2.1 x.2.2.2.2.1.2.2.1 x.2.2.2.2.1.2.2.2.1 x.2.2.2.2.1.2.2.2.2.1 x.2.2.2.2.1.2.2.2.2.2.1 x.2.2.2.2.1.2.2.2.2.2.2.1 x.2.2.2.2.1.2.2.2.2.2.2.2.1 x.2.2.2.2.2.1 x.2.2.2.2.2.2.1 x.2.2.2.2.2.2.2.1 x.2.2.2.2.2.2.2.2.1
def gdb_2042 (x0 : List Int) (x1 : List Y15) (x2 : Int) (x3 : List Int) (x4 : Int) (x5 : List (Int × Bool)) (x6 : List Y1) (x7 : List (Int × Bool × Bool × List (Int × Int))) (x8 : List Y13) (x9 : List Y3) (x10 : List Y5) (x11 : List Y21) (x12 x13 : List Int) (x14 : List Y15) (x15 x16 : Int) := loopL gdb_2042F (x0, x1, x2, (x3, x4, ()), (x5, x6, x7, x8, x9, x10, x11, x12, ()), x13, x14, x15, x16, ())
def gdb_536503910r (x0 : List Y15) (x1 : Int) (x2 : List (Int × Bool)) (x3 : List Y1) (x4 : List (Int × Bool × Bool × List (Int × Int))) (x5 : List Y13) (x6 : List Y3) (x7 : List Y5) (x8 : List Y21) (x9 : List Int) (x10 : List Y15) (x11 : Int) (x12 : List Int) (x13 : List Y15) (x14 : List (List Int)) (x15 x16 : Int) (x17 : List (List Y15)) (x18 x19 : Int) (x20 : List Int) (x21 x22 : Int) : Option ((List Y15 × Int × (List (Int × Bool) × List Y1 × List (Int × Bool × Bool × List (Int × Int)) × List Y13 × List Y3 × List Y5 × List Y21 × List Int × Unit) × List Y15 × Int × List Int × List Y15 × List (List Int) × Int × Int × List (List Y15) × Int × Int × List Int × Int × Int × Unit) ⊕ ((Bool × Unit) ⊕ (List Y15 × Int × (List (Int × Bool) × List Y1 × List (Int × Bool × Bool × List (Int × Int)) × List Y13 × List Y3 × List Y5 × List Y21 × List Int × Unit) × List Y15 × Int × List Int × List (List Int) × Int × Int × List (List Y15) × Int × Int × Unit))) :=
 bif decide (x22 < x21) then
  bif (decide (0 ≤ x22) && decide (x22 < (x20.length : Int))) then
  (x20[x22.toNat]?).bind fun v0 =>
  (gbg x2 x3 x4 x5 x6 x7 x8 x9 x12 x13 v0).bind fun y3 =>
  (gcz x2 x3 x4 x5 x6 x7 x8 x9 x12 x13 v0).bind fun y4 =>
  (bif (y3.1.2.2.1 != y4.1.2.2.1) then some true else ((gda y3.1.1 y4.1.1).bind fun y5 => some (!y5.1))).bind fun b0 =>
  (bif b0 then some true else ((gbh y3.1.2.1 y4.1.2.1).bind fun y6 => some (!y6.1))).bind fun b1 =>
  bif b1 then
   some (.inr (.inl (false, ())))
  else
   some (.inl (x0, x1, (x2, x3, x4, x5, x6, x7, x8, x9, ()), x10, x11, x12, x13, x14, x15, x16, x17, x18, x19, x20, x21, (wrap .i64 (x22 + 1)), ()))
  else none
 else
  some (.inr (.inr (x0, x1, (x2, x3, x4, x5, x6, x7, x8, x9, ()), x10, x11, x12, x14, x15, x16, x17, x18, x19, ())))
def gdb_536503910F (x : (List Y15 × Int × (List (Int × Bool) × List Y1 × List (Int × Bool × Bool × List (Int × Int)) × List Y13 × List Y3 × List Y5 × List Y21 × List Int × Unit) × List Y15 × Int × List Int × List Y15 × List (List Int) × Int × Int × List (List Y15) × Int × Int × List Int × Int × Int × Unit)) := gdb_536503910r x.1 x.2.1 x.2.2.1.1 x.2.2.1.2.1 x.2.2.1.2.2.1 x.2.2.1.2.2.2.1 x.2.2.1.2.2.2.2.1 x.2.2.1.2.2.2.2.2.1 x.2.2.1.2.2.2.2.2.2.1 x.2.2.1.2.2.2.2.2.2.2.1 x.2.2.2.1 x.2.2.2.2.1 x.2.2.2.2.2.1 x.2.2.2.2.2.2.1 x.2.2.2.2.2.2.2.1 x.2.2.2.2.2.2.2.2.1 x.2.2.2.2.2.2.2.2.2.1 x.2.2.2.2.2.2.2.2.2.2.1 x.2.2.2.2.2.2.2.2.2.2.2.1 x.2.2.2.2.2.2.2.2.2.2.2.2.1 x.2.2.2.2.2.2.2.2.2.2.2.2.2.1 x.2.2.2.2.2.2.2.2.2.2.2.2.2.2.1 x.2.2.2.2.2.2.2.2.2.2.2.2.2.2.2.1
def gdb_536503910 (x0 : List Y15) (x1 : Int) (x2 : List (Int × Bool)) (x3 : List Y1) (x4 : List (Int × Bool × Bool × List (Int × Int))) (x5 : List Y13) (x6 : List Y3) (x7 : List Y5) (x8 : List Y21) (x9 : List Int) (x10 : List Y15) (x11 : Int) (x12 : List Int) (x13 : List Y15) (x14 : List (List Int)) (x15 x16 : Int) (x17 : List (List Y15)) (x18 x19 : Int) (x20 : List Int) (x21 x22 : Int) := loopL gdb_536503910F (x0, x1, (x2, x3, x4, x5, x6, x7, x8, x9, ()), x10, x11, x12, x13, x14, x15, x16, x17, x18, x19, x20, x21, x22, ())
def gdb_2095718r (x0 : List Y15) (x1 : Int) (x2 : List (Int × Bool)) (x3 : List Y1) (x4 : List (Int × Bool × Bool × List (Int × Int))) (x5 : List Y13) (x6 : List Y3) (x7 : List Y5) (x8 : List Y21) (x9 : List Int) (x10 : List Y15) (x11 : Int) (x12 : List Int) (x13 : List (List Int)) (x14 x15 : Int) (x16 : List (List Y15)) (x17 x18 : Int) : Option ((List Y15 × Int × (List (Int × Bool) × List Y1 × List (Int × Bool × Bool × List (Int × Int)) × List Y13 × List Y3 × List Y5 × List Y21 × List Int × Unit) × List Y15 × Int × List Int × List (List Int) × Int × Int × List (List Y15) × Int × Int × Unit) ⊕ ((Bool × Unit) ⊕ (List Y15 × Int × (List (Int × Bool) × List Y1 × List (Int × Bool × Bool × List (Int × Int)) × List Y13 × List Y3 × List Y5 × List Y21 × List Int × Unit) × List Y15 × Int × List (List Int) × Int × Int × Unit))) :=
 bif decide (x18 < x17) then
  bif (decide (0 ≤ x18) && decide (x18 < (x16.length : Int))) then
  (x16[x18.toNat]?).bind fun v1 =>
  (gdb_536503910 x0 x1 x2 x3 x4 x5 x6 x7 x8 x9 x10 x11 x12 v1 x13 x14 x15 x16 x17 x18 ([x11, x1] : List Int) 2 0).bind fun z0 =>
  sumElim z0 (fun z1 =>
   some (.inr (.inl z1)))
   (fun z2 =>
   some (.inl (z2.1, z2.2.1, z2.2.2.1, z2.2.2.2.1, z2.2.2.2.2.1, z2.2.2.2.2.2.1, z2.2.2.2.2.2.2.1, z2.2.2.2.2.2.2.2.1, z2.2.2.2.2.2.2.2.2.1, z2.2.2.2.2.2.2.2.2.2.1, z2.2.2.2.2.2.2.2.2.2.2.1, (wrap .i64 (z2.2.2.2.2.2.2.2.2.2.2.2.1 + 1)), ())))
  else none
 else
  some (.inr (.inr (x0, x1, (x2, x3, x4, x5, x6, x7, x8, x9, ()), x10, x11, x13, x14, x15, ())))
def gdb_2095718F (x : (List Y15 × Int × (List (Int × Bool) × List Y1 × List (Int × Bool × Bool × List (Int × Int)) × List Y13 × List Y3 × List Y5 × List Y21 × List Int × Unit) × List Y15 × Int × List Int × List (List Int) × Int × Int × List (List Y15) × Int × Int × Unit)) := gdb_2095718r x.1 x.2.1 x.2.2.1.1 x.2.2.1.2.1 x.2.2.1.2.2.1 x.2.2.1.2.2.2.1 x.2.2.1.2.2.2.2.1 x.2.2.1.2.2.2.2.2.1 x.2.2.1.2.2.2.2.2.2.1 x.2.2.1.2.2.2.2.2.2.2.1 x.2.2.2.1 x.2.2.2.2.1 x.2.2.2.2.2.1 x.2.2.2.2.2.2.1 x.2.2.2.2.2.2.2.1 x.2.2.2.2.2.2.2.2.1 x.2.2.2.2.2.2.2.2.2.1 x.2.2.2.2.2.2.2.2.2.2.1 x.2.2.2.2.2.2.2.2.2.2.2.1
def gdb_2095718 (x0 : List Y15) (x1 : Int) (x2 : List (Int × Bool)) (x3 : List Y1) (x4 : List (Int × Bool × Bool × List (Int × Int))) (x5 : List Y13) (x6 : List Y3) (x7 : List Y5) (x8 : List Y21) (x9 : List Int) (x10 : List Y15) (x11 : Int) (x12 : List Int) (x13 : List (List Int)) (x14 x15 : Int) (x16 : List (List Y15)) (x17 x18 : Int) := loopL gdb_2095718F (x0, x1, (x2, x3, x4, x5, x6, x7, x8, x9, ()), x10, x11, x12, x13, x14, x15, x16, x17, x18, ())
def gdb_8186r (x0 : List Y15) (x1 : Int) (x2 : List (Int × Bool)) (x3 : List Y1) (x4 : List (Int × Bool × Bool × List (Int × Int))) (x5 : List Y13) (x6 : List Y3) (x7 : List Y5) (x8 : List Y21) (x9 : List Int) (x10 : List Y15) (x11 : Int) (x12 : List (List Int)) (x13 x14 : Int) : Option ((List Y15 × Int × (List (Int × Bool) × List Y1 × List (Int × Bool × Bool × List (Int × Int)) × List Y13 × List Y3 × List Y5 × List Y21 × List Int × Unit) × List Y15 × Int × List (List Int) × Int × Int × Unit) ⊕ ((Bool × Unit) ⊕ (Unit))) :=
 bif decide (x14 < x13) then
  bif (decide (0 ≤ x14) && decide (x14 < (x12.length : Int))) then
  (x12[x14.toNat]?).bind fun v2 =>
  (gdb_2095718 x0 x1 x2 x3 x4 x5 x6 x7 x8 x9 x10 x11 v2 x12 x13 x14 ([x10, x0] : List (List Y15)) 2 0).bind fun z3 =>
  sumElim z3 (fun z4 =>
   some (.inr (.inl z4)))
   (fun z5 =>
   some (.inl (z5.1, z5.2.1, z5.2.2.1, z5.2.2.2.1, z5.2.2.2.2.1, z5.2.2.2.2.2.1, z5.2.2.2.2.2.2.1, (wrap .i64 (z5.2.2.2.2.2.2.2.1 + 1)), ())))
  else none
 else
  some (.inr (.inr ()))
def gdb_8186F (x : (List Y15 × Int × (List (Int × Bool) × List Y1 × List (Int × Bool × Bool × List (Int × Int)) × List Y13 × List Y3 × List Y5 × List Y21 × List Int × Unit) × List Y15 × Int × List (List Int) × Int × Int × Unit)) := gdb_8186r x.1 x.2.1 x.2.2.1.1 x.2.2.1.2.1 x.2.2.1.2.2.1 x.2.2.1.2.2.2.1 x.2.2.1.2.2.2.2.1 x.2.2.1.2.2.2.2.2.1 x.2.2.1.2.2.2.2.2.2.1 x.2.2.1.2.2.2.2.2.2.2.1 x.2.2.2.1 x.2.2.2.2.1 x.2.2.2.2.2.1 x.2.2.2.2.2.2.1 x.2.2.2.2.2.2.2.1
def gdb_8186 (x0 : List Y15) (x1 : Int) (x2 : List (Int × Bool)) (x3 : List Y1) (x4 : List (Int × Bool × Bool × List (Int × Int))) (x5 : List Y13) (x6 : List Y3) (x7 : List Y5) (x8 : List Y21) (x9 : List Int) (x10 : List Y15) (x11 : Int) (x12 : List (List Int)) (x13 x14 : Int) := loopL gdb_8186F (x0, x1, (x2, x3, x4, x5, x6, x7, x8, x9, ()), x10, x11, x12, x13, x14, ())
def gdb (x0 x1 : List Int) (x2 : List Y15) (x3 : Int) : Option (Bool × Unit) :=
 (bif decide ((x1.length : Int) > 80) then some true else some (decide ((x2.length : Int) > 40))).bind fun b2 =>
 bif b2 then
  (gbi).bind fun y7 =>
  some (y7.1, ())
 else
  (gbj x0).bind fun y8 =>
  (gcf y8.1.1 y8.1.2.1).bind fun y9 =>
  (gdb_506 x1 x2 x3 y9.2.1.1 y9.2.1.2.1 y9.1.1.1 y9.1.1.2.1 y9.1.1.2.2.1 y9.1.1.2.2.2.1 y9.1.1.2.2.2.2.1 y9.1.1.2.2.2.2.2.1 y9.1.1.2.2.2.2.2.2.1 y9.1.1.2.2.2.2.2.2.2.1 ([] : List Int) (y9.1.1.2.2.2.2.2.1.length : Int) 0).bind fun z6 =>
  (gdb_2042 z6.1 z6.2.1 z6.2.2.1 z6.2.2.2.1.1 z6.2.2.2.1.2.1 z6.2.2.2.2.1.1 z6.2.2.2.2.1.2.1 z6.2.2.2.2.1.2.2.1 z6.2.2.2.2.1.2.2.2.1 z6.2.2.2.2.1.2.2.2.2.1 z6.2.2.2.2.1.2.2.2.2.2.1 z6.2.2.2.2.1.2.2.2.2.2.2.1 z6.2.2.2.2.1.2.2.2.2.2.2.2.1 z6.2.2.2.2.2.1 ([] : List Y15) (z6.2.2.2.2.1.2.2.2.2.2.2.1.length : Int) 0).bind fun z7 =>
  (gch z7.2.2.1 30).bind fun y10 =>
  (gdb_8186 z7.2.1 z7.2.2.1 z7.2.2.2.1.1 z7.2.2.2.1.2.1 z7.2.2.2.1.2.2.1 z7.2.2.2.1.2.2.2.1 z7.2.2.2.1.2.2.2.2.1 z7.2.2.2.1.2.2.2.2.2.1 z7.2.2.2.1.2.2.2.2.2.2.1 z7.2.2.2.1.2.2.2.2.2.2.2.1 z7.2.2.2.2.2.1 (wrap .i64 (9 + y10.1)) ([z7.2.2.2.2.1, z7.1] : List (List Int)) 2 0).bind fun z8 =>
  sumElim z8 (fun z9 =>
   some (z9.1, ()))
   (fun z10 =>
   (gbi).bind fun y11 =>
   some (y11.1, ()))
end
end Go.V
