/-
  Plain Lean: what the functions of CutoffWider make of all inputs, part 2.
-/
import Derived.Test.YtedhbknblmfgeaaLCutoffWidera
set_option linter.all false
namespace Go.V
open Go
def SpanOk (k : Int × Int) : Prop := k = nothing ∨ (k.1 ≤ k.2 ∧ -1000000000 ≤ k.1 ∧ k.2 ≤ 1000000000)
theorem value_ok {s : SensorT} (h : SenOk s) (h0 : 0 ≤ s.1) (h1 : s.1 ≤ 255) {raw : Int} (hr : 0 ≤ raw) (hr2 : raw ≤ 65535) :
  ∃ lo hi, gbb s.1 s.2.1 s.2.2.1 s.2.2.2.1 s.2.2.2.2.1 s.2.2.2.2.2.1 s.2.2.2.2.2.2.1 s.2.2.2.2.2.2.2 raw = some ((lo, hi, ()), ()) ∧ SpanOk (lo, hi) := by
 have hc := h.check h0 h1
 unfold SenOk at h
 unfold gbb
 simp only [refSensor_eq, Option.bind_some, rin, cond_some, cond_or, gar, gba, gaz, hc]
 rw [show inB 0 65535 raw = true by unfold inB; simp only [Bool.and_eq_true, decide_eq_true_eq]; omega]
 simp only [bne_self_eq_false, Bool.not_true, Bool.or_false, cond_false]
 have two : ∀ a b c : Int, ∃ lo hi, gbb_235 raw s.1 s.2.1 s.2.2.1 s.2.2.2.1 s.2.2.2.2.1 s.2.2.2.2.2.1 s.2.2.2.2.2.2.1 s.2.2.2.2.2.2.2 a b c = some ((lo, hi, ()), ()) ∧ SpanOk (lo, hi) := by
  intro a b c
  unfold gbb_235 gbb_471
  have hn : SpanOk (-1125899906842624, 1125899906842624) := .inl rfl
  have hx : SpanOk (raw, raw) := .inr ⟨by simp, by simp only; omega, by simp only; omega⟩
  cases s.2.1 == 6
  ·simp only [cond_false, gaz]
   cases decide (raw > c)
   ·exact ⟨_, _, rfl, hx⟩
   ·exact ⟨_, _, rfl, hn⟩
  ·simp only [cond_true, gaz]
   cases decide (raw > 5)
   ·exact ⟨_, _, rfl, hx⟩
   ·exact ⟨_, _, rfl, hn⟩
 by_cases hs : s.2.1 ≥ 4
 ·rw [show decide (s.2.1 ≥ 4) = true by simpa using hs]
  simp only [cond_true]
  cases s.2.1 == 5
  ·obtain ⟨lo, hi, e, g⟩ := two 0 0 1
   exact ⟨lo, hi, by simp only [cond_false, e, Option.bind_some], g⟩
  ·obtain ⟨lo, hi, e, g⟩ := two 0 0 2
   exact ⟨lo, hi, by simp only [cond_true, e, Option.bind_some], g⟩
 ·rw [show decide (s.2.1 ≥ 4) = false by simpa using hs]
  simp only [cond_false]
  have p1 : 0 ≤ s.2.2.2.2.1 * raw := Int.mul_nonneg (by omega) hr
  have p2 : s.2.2.2.2.1 * raw ≤ 2000 * 65535 := Int.mul_le_mul (by omega) hr2 hr (by omega)
  rw [wrap64 (n := s.2.2.2.2.1 * raw) (by omega) (by omega), floor_eq (by omega) (by omega) (by omega), ceil_eq (by omega) (by omega) (by omega)]
  simp only [Option.bind_some]
  generalize s.2.2.2.2.1 * raw = p at *
  rw [wrap64 (n := s.2.2.2.1 + p / 1000) (by omega) (by omega), wrap64 (n := s.2.2.2.1 + p / 1000 - s.2.2.2.2.2.1) (by omega) (by omega), wrap64 (n := s.2.2.2.1 + -(-p / 1000)) (by omega) (by omega), wrap64 (n := s.2.2.2.1 + -(-p / 1000) + s.2.2.2.2.2.1) (by omega) (by omega)]
  simp only [cond_max0]
  cases (s.2.1 == 1 || s.2.1 == 2)
  ·exact ⟨_, _, rfl, .inr ⟨by simp only; omega, by simp only; omega, by simp only; omega⟩⟩
  ·exact ⟨_, _, rfl, .inr ⟨by simp only; omega, by simp only; omega, by simp only; omega⟩⟩
def SaidOk (k : Nat) (m : MeasT) : Prop := (m.1 = -1 ∨ m.1 = k) ∧ 0 ≤ m.2.1 ∧ m.2.1 ≤ 19 ∧ SpanOk m.2.2
theorem SaidOk.meas {k : Nat} {m : MeasT} (h : SaidOk k m) : MeasOk m := by
 obtain ⟨_, h1, h2, h3⟩ := h
 unfold MeasOk
 rcases h3 with h3 | ⟨h3, h4, h5⟩
 ·rw [h3]; simp only [nothing]; omega
 ·omega
section
variable {l : List Int} {ps : List PlaceT} {rs : List RoadT} {fs : List FanT} {ds : List DoorT} {ss : List SensorT} {ks : List CondT} {zs : List ZoneT} {es : List Int}
theorem said_ok {i : Int} (h : Codes l i) (hl : ss.length ≤ 100) (hs : ∀ (k : Nat) (s : SensorT), ss[k]? = some s → s.1 = k ∧ SenOk s) :
  ∃ ms j, gbc l i ps rs fs ds ss ks zs es = some (ms, ((l, j, ()), ())) ∧ Codes l j ∧ ms.length = ss.length ∧ ∀ (k : Nat) (m : MeasT), ms[k]? = some m → SaidOk k m := by
 obtain ⟨z, hz, ms, j, e, g1, g2, g3⟩ := loopL_inv (f := gbc_58F) ss
  (fun k (b : Int × List MeasT) => ((l, b.1, ()), b.2, ss, (ss.length : Int), (k : Int), ()))
  (fun k b => Codes l b.1 ∧ b.2.length = k ∧ ∀ (j : Nat) (m : MeasT), b.2[j]? = some m → SaidOk j m)
  (fun z => ∃ ms j, z = ((l, j, ()), ms, ()) ∧ Codes l j ∧ ms.length = ss.length ∧ ∀ (k : Nat) (m : MeasT), ms[k]? = some m → SaidOk k m) (by
   rintro k s ⟨i', ms⟩ hsk ⟨q1, q2, q3⟩
   left
   simp only at q1 q2 q3
   have hk := lt_of_get hsk
   obtain ⟨s0, S⟩ := hs k s hsk
   obtain ⟨u1, s1, f1, p1, c1, d1⟩ := next_ok q1 (n := 20) (by omega)
   obtain ⟨u2, s2, f2, p2, c2, d2⟩ := next_ok p1 (n := 200) (by omega)
   obtain ⟨lo, hi, f3, V3⟩ := value_ok S (by omega) (by omega) (raw := u2) (by omega) (by omega)
   have snoc : ∀ x, SaidOk k x → (ms ++ [x]).length = k + 1 ∧ ∀ (j : Nat) (m : MeasT), (ms ++ [x])[j]? = some m → SaidOk j m := by
    intro x hx
    refine ⟨by simp [q2], fun j m hm => ?_⟩
    rcases get_snoc hm with hm | ⟨e1, e2⟩
    ·exact q3 j m hm
    ·subst e2; rw [e1, q2]; exact hx
   have hlen : decide ((ms.length + 1) * 32 ≤ 140737488355328) = true := by rw [decide_eq_true_eq]; omega
   have fin : ∀ (i0 lo hi : Int), Codes l i0 → SpanOk (lo, hi) → ∃ b' : Int × List MeasT, ((gbc_14951 l i0 ms (k : Int) u1 lo hi ss (ss.length : Int) (k : Int)).bind fun z1523 =>
     (some (.inl ((z1523.1.1, z1523.1.2.1, ()), z1523.2.1, z1523.2.2.1, z1523.2.2.2.1, (IntKind.wrap .i64 (z1523.2.2.2.2.1 + 1)), ())) : Option ((CB × List MeasT × List SensorT × Int × Int × Unit) ⊕ (CB × List MeasT × Unit)))) = some (.inl ((l, b'.1, ()), b'.2, ss, (ss.length : Int), ((k + 1 : Nat) : Int), ())) ∧
     Codes l b'.1 ∧ b'.2.length = k + 1 ∧ ∀ (j : Nat) (m : MeasT), b'.2[j]? = some m → SaidOk j m := by
    intro i0 lo hi hc hV
    obtain ⟨b, j1, e1, c1'⟩ := one_ok hc (n := 5) (by omega)
    unfold gbc_14951 gbc_29903
    simp only [e1, Option.bind_some, hlen, cond_true, wrap_succ hk (show ss.length ≤ Big by simp only [Big]; omega)]
    cases b
    ·exact ⟨(j1, ms ++ [((k : Int), u1, lo, hi)]), by simp only [cond_false, Option.bind_some, wrap_succ hk (show ss.length ≤ Big by simp only [Big]; omega)]; rfl, c1', snoc _ ⟨.inr rfl, c1, by simp only; omega, hV⟩⟩
    ·exact ⟨(j1, ms ++ [(-1, 0, 0, 0)]), by simp only [cond_true, Option.bind_some, wrap_succ hk (show ss.length ≤ Big by simp only [Big]; omega)]; rfl, c1', snoc _ ⟨.inl rfl, by simp, by simp, .inr (by simp)⟩⟩
   simp only [gbc_58F, gbc_58r, show decide ((k : Int) < (ss.length : Int)) = true by rw [decide_eq_true_eq]; omega, cond_true, idx_get hsk, Option.bind_some, f1, f2, f3, gar]
   by_cases hst : s.2.1 ≥ 4
   ·obtain ⟨u3, s3, f4, p4, c4, d4⟩ := next_ok p2 (n := 3) (by omega)
    obtain ⟨lo2, hi2, f5, V5⟩ := value_ok S (by omega) (by omega) (raw := u3) (by omega) (by omega)
    rw [show decide (s.2.1 ≥ 4) = true by simpa using hst]
    simp only [cond_true, f4, f5, Option.bind_some]
    exact fin s3 lo2 hi2 p4 V5
   ·rw [show decide (s.2.1 ≥ 4) = false by simpa using hst]
    simp only [cond_false]
    exact fin s2 lo hi p2 V3)
  (by
   rintro ⟨i', ms⟩ ⟨q1, q2, q3⟩
   exact ⟨((l, i', ()), ms, ()), by simp only [gbc_58F, gbc_58r, show decide ((ss.length : Int) < (ss.length : Int)) = false by simp, cond_false], ms, i', rfl, q1, q2, q3⟩) (i, []) ⟨h, rfl, by simp⟩
 refine ⟨ms, j, ?_, g1, g2, g3⟩
 have hz' : gbc_58 l i [] ss ss.length 0 = some z := hz
 unfold gbc
 rw [hz', e]; rfl
def WatchOk (w : WatchT) : Prop := 0 ≤ w.2.2 ∧ w.2.2 ≤ 9 ∧ -1 ≤ w.2.1 ∧ w.2.1 ≤ w.2.2 ∧ (w.2.1 ≠ -1 → w.1 = true)
theorem watched_ok {i : Int} (h : Codes l i) (hl : ks.length ≤ 100) :
  ∃ ws j, gbe l i ps rs fs ds ss ks zs es = some (ws, ((l, j, ()), ())) ∧ Codes l j ∧ ws.length = ks.length ∧ ∀ w ∈ ws, WatchOk w := by
 obtain ⟨z, hz, ws, j, e, g1, g2, g3⟩ := loopL_up (f := gbe_58F) (ks.length : Int)
  (fun k (b : Int × List WatchT) => ((l, b.1, ()), b.2, (ks.length : Int), k, ()))
  (fun k b => Codes l b.1 ∧ 0 ≤ k ∧ k ≤ ks.length ∧ (b.2.length : Int) = k ∧ ∀ w ∈ b.2, WatchOk w)
  (fun z => ∃ ws j, z = ((l, j, ()), ws, ()) ∧ Codes l j ∧ ws.length = ks.length ∧ ∀ w ∈ ws, WatchOk w) (by
   rintro k ⟨i', ws⟩ hk ⟨q1, q2, q3, q4, q5⟩
   simp only at q1 q4 q5
   obtain ⟨u1, s1, f1, p1, c1, d1⟩ := next_ok q1 (n := 3) (by omega)
   have hlen : decide ((ws.length + 1) * 24 ≤ 140737488355328) = true := by rw [decide_eq_true_eq]; omega
   have snoc : ∀ x, WatchOk x → ∀ w ∈ ws ++ [x], WatchOk w := by
    intro x hx w hw
    rcases List.mem_append.1 hw with hw | hw
    ·exact q5 w hw
    ·simp only [List.mem_singleton] at hw; subst hw; exact hx
   simp only [gbe_58F, gbe_58r, show decide (k < (ks.length : Int)) = true by simpa using hk, cond_true, gbd, Option.bind_some, f1, gbe_7475, hlen, wrap64 (n := k + 1) (by omega) (by omega)]
   cases u1 == 1
   ·simp only [cond_false]
    cases u1 == 2
    ·exact ⟨(s1, ws ++ [(true, -1, 0)]), rfl, p1, by omega, by omega, by simp; omega, snoc _ ⟨by simp, by simp, by simp, by simp, fun _ => rfl⟩⟩
    ·obtain ⟨u2, s2, f2, p2, c2, d2⟩ := next_ok p1 (n := 9) (by omega)
     simp only [cond_true, f2, Option.bind_some]
     exact ⟨(s2, ws ++ [(true, u2, 9)]), rfl, p2, by omega, by omega, by simp; omega, snoc _ ⟨by simp, by simp, by simp only; omega, by simp only; omega, fun _ => rfl⟩⟩
   ·exact ⟨(s1, ws ++ [(false, -1, 0)]), rfl, p1, by omega, by omega, by simp; omega, snoc _ ⟨by simp, by simp, by simp, by simp, fun h => absurd rfl h⟩⟩)
  (by
   rintro k ⟨i', ws⟩ hk ⟨q1, q2, q3, q4, q5⟩
   simp only at q1 q4 q5
   exact ⟨((l, i', ()), ws, ()), by simp only [gbe_58F, gbe_58r, show decide (k < (ks.length : Int)) = false by simpa using hk, cond_false], ws, i', rfl, q1, by omega, q5⟩) 0 (i, []) ⟨h, by omega, by omega, rfl, by simp⟩
 refine ⟨ws, j, ?_, g1, g2, g3⟩
 have hz' : gbe_58 l i [] ks.length 0 = some z := hz
 unfold gbe
 rw [hz', e]; rfl
theorem spans_ok {i : Int} (h : Codes l i) (fl : List Int) (hl : fl.length ≤ 1000) (hf : ∀ q ∈ fl, -1000 ≤ q ∧ q ≤ 1000) :
  ∃ us j, gbf l i fl = some (us, ((l, j, ()), ())) ∧ Codes l j ∧ us.length = fl.length ∧ ∀ u ∈ us, u.1 ≤ u.2 ∧ -2000 ≤ u.1 ∧ u.2 ≤ 2000 := by
 obtain ⟨z, hz, us, j, e, g1, g2, g3⟩ := loopL_inv (f := gbf_58F) fl
  (fun k (b : Int × List (Int × Int)) => ((l, b.1, ()), fl, b.2, (k : Int), ()))
  (fun k b => Codes l b.1 ∧ b.2.length = k ∧ ∀ u ∈ b.2, u.1 ≤ u.2 ∧ -2000 ≤ u.1 ∧ u.2 ≤ 2000)
  (fun z => ∃ us j, z = ((l, j, ()), us, ()) ∧ Codes l j ∧ us.length = fl.length ∧ ∀ u ∈ us, u.1 ≤ u.2 ∧ -2000 ≤ u.1 ∧ u.2 ≤ 2000) (by
   rintro k q ⟨i', us⟩ hq ⟨q1, q2, q3⟩
   left
   simp only at q1 q2 q3
   have hk := lt_of_get hq
   have hqr := hf q (List.mem_of_getElem? hq)
   obtain ⟨u1, s1, f1, p1, c1, d1⟩ := next_ok q1 (n := 12) (by omega)
   obtain ⟨u2, s2, f2, p2, c2, d2⟩ := next_ok p1 (n := 12) (by omega)
   refine ⟨(s2, us ++ [(q - u1, q + u2)]), by
    simp only [gbf_58F, gbf_58r, show decide ((k : Int) < (fl.length : Int)) = true by rw [decide_eq_true_eq]; omega, cond_true, idx_get hq, Option.bind_some, f1, f2, wrap64 (n := q - u1) (by omega) (by omega), wrap64 (n := q + u2) (by omega) (by omega), wrap_succ hk (show fl.length ≤ Big by simp only [Big]; omega)]
    rw [show decide ((us.length + 1) * 16 ≤ 140737488355328) = true by rw [decide_eq_true_eq]; omega]; rfl, p2, by simp [q2], fun u hu => ?_⟩
   rcases List.mem_append.1 hu with hu | hu
   ·exact q3 u hu
   ·simp only [List.mem_singleton] at hu; subst hu; simp only; omega)
  (by
   rintro ⟨i', us⟩ ⟨q1, q2, q3⟩
   exact ⟨((l, i', ()), us, ()), by simp only [gbf_58F, gbf_58r, show decide ((fl.length : Int) < (fl.length : Int)) = false by simp, cond_false], us, i', rfl, q1, q2, q3⟩) (i, []) ⟨h, rfl, by simp⟩
 refine ⟨us, j, ?_, g1, g2, g3⟩
 have hz' : gbf_58 l i fl [] 0 = some z := hz
 unfold gbf
 rw [hz', e]; rfl
end
theorem step_fine {nr : Nat} {ss : List SensorT} {c : CondT} (hc : CondOk nr ss c) {w : WatchT} (hw : WatchOk w) (k : Int × Int) {t : Int} (h1 : 9 ≤ t) (h2 : t ≤ 2147483648) : (stepS c.2.2.2.1 c.2.2.2.2.1 c.2.2.2.2.2 w k t).2 = 0 := by
 obtain ⟨w1, w2, w3, w4, w5⟩ := hw
 unfold stepS
 rw [hc.level, show (decide (t < 0) || (decide (t > 2147483648) || decide (t < w.2.2))) = false by simp only [Bool.or_eq_false_iff, decide_eq_false_iff_not]; omega]
 have h5 : (w.2.1 != -1 && !w.1) = false := by
  by_cases h : w.2.1 = -1
  ·simp [h]
  ·simp [w5 h]
 rw [show (decide (w.2.2 < 0) || (decide (w.2.2 > 2147483648) || (decide (w.2.1 < -1) || (decide (w.2.1 > w.2.2) || (w.2.1 != -1 && !w.1))))) = false by
  rw [h5]; simp only [Bool.or_eq_false_iff, decide_eq_false_iff_not, Bool.or_false]; omega]
 simp only [bne_self_eq_false, cond_false]
 cases aboveS k c.2.2.2.1 != -1 <;> cases w.1 <;> cases decide (k.2 > c.2.2.2.2.1) <;> cases decide (t - (bif decide (w.2.1 < 0) then t else w.2.1) ≥ c.2.2.2.2.2) <;> rfl
theorem one_fine {nr : Nat} {ss : List SensorT} {c : CondT} (hc : CondOk nr ss c) {w : WatchT} (hw : WatchOk w) (ms : List MeasT) (fl : List (Int × Int)) {t : Int} (h1 : 9 ≤ t) (h2 : t ≤ 2147483648) : (oneS ss ms fl t c w).2.2 = 0 := by
 unfold oneS
 simp only
 rw [step_fine hc hw _ h1 h2]
 cases c.1 == 1 <;> cases c.1 == 2 <;> cases c.1 == 3 <;> cases c.1 == 4 <;> cases c.1 == 5 <;> rfl
theorem vals_fine {nr : Nat} {ss : List SensorT} {cs : List CondT} (hc : ∀ c ∈ cs, CondOk nr ss c) {ws : List WatchT} (hw : ∀ w ∈ ws, WatchOk w) (ms : List MeasT) (fl : List (Int × Int)) {t : Int} (h1 : 9 ≤ t) (h2 : t ≤ 2147483648) :
  valsS (oneS ss ms fl t) cs ws = (List.zipWith (fun c w => (oneS ss ms fl t c w).1) cs ws, List.zipWith (fun c w => (oneS ss ms fl t c w).2.1) cs ws, 0) := by
 unfold valsS
 have : errL (errAt (oneS ss ms fl t) ws) cs 0 = 0 := errL_all fun i c hci => by
  unfold errAt
  cases hwi : ws[i]? with
  | none => rfl
  | some w => exact one_fine (hc c (List.mem_of_getElem? hci)) (hw w (List.mem_of_getElem? hwi)) ms fl h1 h2
 rw [this]; rfl
theorem SiteOk.values {ps : List PlaceT} {rs : List RoadT} {fs : List FanT} {ds : List DoorT} {ss : List SensorT} {cs : List CondT} {zs : List ZoneT} {es tf td pr fl : List Int} (S : SiteOk ps rs fs ds ss cs zs es tf td pr fl)
  {ms : List MeasT} (hm : ∀ (k : Nat) (m : MeasT), ms[k]? = some m → SaidOk k m) (hml : ms.length = ss.length) {ws : List WatchT} (hwl : ws.length = cs.length) (hw : ∀ w ∈ ws, WatchOk w) {us : List (Int × Int)} (hul : us.length = rs.length) {t : Int} (h1 : 9 ≤ t) (h2 : t ≤ 2147483648) :
  gcg ps rs fs ds ss cs zs es ms ws us t = some ((List.zipWith (fun c w => (oneS ss ms us t c w).1) cs ws, List.zipWith (fun c w => (oneS ss ms us t c w).2.1) cs ws, 0, ()), ()) := by
 rw [values_eq S.big (fun m hmm => by
  obtain ⟨k, hk, rfl⟩ := List.getElem_of_mem hmm
  exact (hm k _ (List.getElem?_eq_getElem hk)).meas) ws us t, S.check]
 unfold valuesS
 rw [show ((ms.length : Int) != (ss.length : Int) || ((ws.length : Int) != (cs.length : Int) || (us.length : Int) != (rs.length : Int))) = false by simp only [Bool.or_eq_false_iff, bne_eq_false_iff_eq]; omega,
  show (decide (t < 0) || decide (t > 2147483648)) = false by simp only [Bool.or_eq_false_iff, decide_eq_false_iff_not]; omega, vals_fine S.con hw ms us h1 h2]
 rfl
end Go.V

namespace Go.V
open Go
def Holds (k k' : Int × Int) : Prop := k.1 ≤ k.2 ∧ k'.1 ≤ k.1 ∧ k.2 ≤ k'.2
theorem above_wider {k k' : Int × Int} (h : Holds k k') (v : Int) : aboveS k' v = 0 ∨ aboveS k v = aboveS k' v := by
 obtain ⟨h1, h2, h3⟩ := h
 unfold aboveS
 rw [show decide (k.1 > k.2) = false by rw [decide_eq_false_iff_not]; omega, show decide (k'.1 > k'.2) = false by rw [decide_eq_false_iff_not]; omega]
 by_cases a : k'.1 ≥ v
 ·rw [show decide (k'.1 ≥ v) = true by simpa using a, show decide (k.1 ≥ v) = true by rw [decide_eq_true_eq]; omega]; exact .inr rfl
 ·rw [show decide (k'.1 ≥ v) = false by simpa using a]
  by_cases b : k'.2 < v
  ·rw [show decide (k'.2 < v) = true by simpa using b, show decide (k.1 ≥ v) = false by rw [decide_eq_false_iff_not]; omega, show decide (k.2 < v) = true by rw [decide_eq_true_eq]; omega]; exact .inr rfl
  ·rw [show decide (k'.2 < v) = false by simpa using b]; exact .inl rfl
theorem stopped_wider {k k' : Int × Int} (h : Holds k k') : stoppedS k' = 0 ∨ stoppedS k = stoppedS k' := by
 obtain ⟨h1, h2, h3⟩ := h
 unfold stoppedS
 rw [show decide (k.1 > k.2) = false by rw [decide_eq_false_iff_not]; omega, show decide (k'.1 > k'.2) = false by rw [decide_eq_false_iff_not]; omega]
 simp only [cond_false]
 by_cases a : k'.1 = 1 ∧ k'.2 = 1
 ·have e1 : k.1 = 1 := by omega
  have e2 : k.2 = 1 := by omega
  rw [a.1, a.2, e1, e2]; exact .inr rfl
 ·rw [show (k'.1 == 1 && k'.2 == 1) = false by rw [Bool.and_eq_false_iff, beq_eq_false_iff_ne, beq_eq_false_iff_ne]; omega]
  simp only [cond_false]
  by_cases b : k'.1 > 1 ∨ k'.2 < 1
  ·rw [show (decide (k'.1 > 1) || decide (k'.2 < 1)) = true by simpa using b, show (k.1 == 1 && k.2 == 1) = false by rw [Bool.and_eq_false_iff, beq_eq_false_iff_ne, beq_eq_false_iff_ne]; omega,
    show (decide (k.1 > 1) || decide (k.2 < 1)) = true by rw [Bool.or_eq_true, decide_eq_true_eq, decide_eq_true_eq]; omega]; exact .inr rfl
  ·rw [show (decide (k'.1 > 1) || decide (k'.2 < 1)) = false by rw [Bool.or_eq_false_iff, decide_eq_false_iff_not, decide_eq_false_iff_not]; omega]; exact .inl rfl
theorem fed_wider {k k' : Int × Int} (h : Holds k k') (n : Int) : fedS k' n = 0 ∨ fedS k n = fedS k' n := by
 obtain ⟨h1, h2, h3⟩ := h
 unfold fedS
 rw [show decide (k.1 > k.2) = false by rw [decide_eq_false_iff_not]; omega, show decide (k'.1 > k'.2) = false by rw [decide_eq_false_iff_not]; omega]
 simp only [cond_false]
 by_cases a : n ≤ 0 ∨ k'.1 ≥ n ∨ k'.2 ≤ -n
 ·rw [show (decide (n ≤ 0) || (decide (k'.1 ≥ n) || decide (k'.2 ≤ -n))) = true by simpa using a, show (decide (n ≤ 0) || (decide (k.1 ≥ n) || decide (k.2 ≤ -n))) = true by simp only [Bool.or_eq_true, decide_eq_true_eq]; omega]
  exact .inr rfl
 ·rw [show (decide (n ≤ 0) || (decide (k'.1 ≥ n) || decide (k'.2 ≤ -n))) = false by simp only [Bool.or_eq_false_iff, decide_eq_false_iff_not]; omega]
  simp only [cond_false]
  by_cases b : k'.1 > -n ∧ k'.2 < n
  ·rw [show (decide (k'.1 > -n) && decide (k'.2 < n)) = true by simpa using b, show (decide (n ≤ 0) || (decide (k.1 ≥ n) || decide (k.2 ≤ -n))) = false by simp only [Bool.or_eq_false_iff, decide_eq_false_iff_not]; omega,
    show (decide (k.1 > -n) && decide (k.2 < n)) = true by simp only [Bool.and_eq_true, decide_eq_true_eq]; omega]; exact .inr rfl
  ·rw [show (decide (k'.1 > -n) && decide (k'.2 < n)) = false by rw [Bool.and_eq_false_iff, decide_eq_false_iff_not, decide_eq_false_iff_not]; omega]; exact .inl rfl
def Looser (ms ms' : List MeasT) : Prop := ms'.length = ms.length ∧ ∀ (j : Nat) (m : MeasT), ms[j]? = some m → ∃ m', ms'[j]? = some m' ∧ m'.1 = m.1 ∧ m'.2.1 = m.2.1 ∧ ((m.2.2 = nothing ∧ m'.2.2 = nothing) ∨ (m.2.2 ≠ nothing ∧ Holds m.2.2 m'.2.2 ∧ -2000000000 ≤ m'.2.2.1 ∧ m'.2.2.2 ≤ 2000000000))
theorem at_wider {s : SensorT} {m m' : MeasT} (h1 : m'.1 = m.1) (h2 : m'.2.1 = m.2.1) (h3 : (m.2.2 = nothing ∧ m'.2.2 = nothing) ∨ (m.2.2 ≠ nothing ∧ Holds m.2.2 m'.2.2 ∧ -2000000000 ≤ m'.2.2.1 ∧ m'.2.2.2 ≤ 2000000000)) {t : Int} (ht : 0 ≤ t) (ht2 : t ≤ 2147483648) (hm : 0 ≤ m.2.1) :
  (atS s m t = nothing ∧ atS s m' t = nothing) ∨ (atS s m t ≠ nothing ∧ atS s m' t ≠ nothing ∧ Holds (atS s m t) (atS s m' t)) := by
 unfold atS
 rw [h1, h2]
 by_cases hs : eSensor s = 0
 ·rcases h3 with ⟨e1, e2⟩ | ⟨n1, ho, b1, b2⟩
  ·left
   have a1 : (m.2.2.1 == -1125899906842624 && m.2.2.2 == 1125899906842624) = true := by rw [e1]; rfl
   have a2 : (m'.2.2.1 == -1125899906842624 && m'.2.2.2 == 1125899906842624) = true := by rw [e2]; rfl
   rw [a1, a2]
   simp
  ·have n2 : (m.2.2.1 == -1125899906842624 && m.2.2.2 == 1125899906842624) = false := by
    rw [Bool.and_eq_false_iff, beq_eq_false_iff_ne, beq_eq_false_iff_ne]
    by_cases c : m.2.2.1 = -1125899906842624
    ·right; intro c2; exact n1 (Prod.ext c c2)
    ·exact .inl c
   have n3 : (m'.2.2.1 == -1125899906842624 && m'.2.2.2 == 1125899906842624) = false := by
    rw [Bool.and_eq_false_iff, beq_eq_false_iff_ne, beq_eq_false_iff_ne]; omega
   rw [n2, n3, hs]
   simp only [Bool.false_or, bne_self_eq_false]
   cases hb : decide (m.1 < 0) || (decide (t < m.2.1) || decide (t - m.2.1 > s.2.2.2.2.2.2.2))
   ·right
    simp only [Bool.or_eq_false_iff, decide_eq_false_iff_not] at hb
    have hd := eSensor_drift hs
    obtain ⟨_, _, a3, a4⟩ := more_range hd.1 hd.2 (show 0 ≤ t - m.2.1 by omega) (by omega)
    have hmo : moreS s (t - m.2.1) = Int.tdiv (s.2.2.2.2.2.2.1 * (t - m.2.1) + 999) 1000 := rfl
    rw [← hmo] at a3 a4
    have hlim : moreS s (t - m.2.1) < 1125899000000000 := by omega
    obtain ⟨o1, o2, o3⟩ := ho
    simp only [cond_false]
    cases plainK s.2.1
    ·simp only [cond_false]
     cases (s.2.1 == 1 || s.2.1 == 2)
     ·refine ⟨fun e => ?_, fun e => ?_, ?_⟩
      ·have := congrArg Prod.fst e; simp only [cond_false, nothing] at this; omega
      ·have := congrArg Prod.fst e; simp only [cond_false, nothing] at this; omega
      ·unfold Holds; simp only [cond_false]; omega
     ·refine ⟨fun e => ?_, fun e => ?_, ?_⟩
      ·have := congrArg Prod.fst e; simp only [cond_true, nothing] at this; omega
      ·have := congrArg Prod.fst e; simp only [cond_true, nothing] at this; omega
      ·unfold Holds; simp only [cond_true]; omega
    ·simp only [cond_true]
     refine ⟨n1, fun e => ?_, o1, o2, o3⟩
     have := congrArg Prod.fst e; simp only [nothing] at this; omega
   ·left; exact ⟨rfl, rfl⟩
 ·left
  rw [show (eSensor s != 0) = true by simpa using hs]
  simp
theorem known_wider {ss : List SensorT} {ms ms' : List MeasT} (h : Looser ms ms') (hm : ∀ m ∈ ms, 0 ≤ m.2.1) (n : Int) {t : Int} (ht : 0 ≤ t) (ht2 : t ≤ 2147483648) :
  (knownS ss ms n t = nothing ∧ knownS ss ms' n t = nothing) ∨ (knownS ss ms n t ≠ nothing ∧ knownS ss ms' n t ≠ nothing ∧ Holds (knownS ss ms n t) (knownS ss ms' n t)) := by
 unfold knownS
 rw [h.1]
 cases hh : has n ss.length
 ·left; simp
 ·obtain ⟨s, e1, e2⟩ := has_idx hh
  rw [e1]
  cases hmn : ms[n.toNat]? with
  | none =>
   have : ms'[n.toNat]? = none := by
    rw [List.getElem?_eq_none_iff] at hmn ⊢
    rw [h.1]; exact hmn
   rw [this]
   left; simp
  | some m =>
   obtain ⟨m', hm', f1, f2, f3⟩ := h.2 _ m hmn
   rw [hm']
   simp only [f1]
   cases (!true || (decide (n ≥ (ms.length : Int)) || m.1 != n))
   ·exact at_wider f1 f2 f3 ht ht2 (hm m (List.mem_of_getElem? hmn))
   ·left; simp
def LessSure (a b : Int) : Prop := (b = -1 → a = -1) ∧ (b = 1 → a = 1)
theorem less_of {a b : Int} (h : b = 0 ∨ a = b) : LessSure a b := ⟨fun e => by omega, fun e => by omega⟩
theorem less_neg {a b : Int} (h : b = 0 ∨ a = b) : LessSure (-a) (-b) := ⟨fun e => by omega, fun e => by omega⟩
theorem step_wider {cut clear delay : Int} {w : WatchT} {k k' : Int × Int} {t : Int} (hk : (k = nothing ∧ k' = nothing) ∨ (k ≠ nothing ∧ k' ≠ nothing ∧ Holds k k')) (h0 : (stepS cut clear delay w k t).2 = 0) (h1 : (stepS cut clear delay w k' t).2 = 0) :
  ((stepS cut clear delay w k t).1.1 = true → (stepS cut clear delay w k' t).1.1 = true) ∧ LessSure (overS cut (stepS cut clear delay w k t).1.1 k) (overS cut (stepS cut clear delay w k' t).1.1 k') := by
 rcases hk with ⟨rfl, rfl⟩ | ⟨_, _, hk⟩
 ·exact ⟨fun h => h, fun h => h, fun h => h⟩
 ·have hab := above_wider hk cut
  obtain ⟨k1, k2, k3⟩ := hk
  unfold stepS at h0 h1 ⊢
  revert h0 h1
  cases hlev : eLevel cut clear delay != 0
  ·simp only [cond_false]
   cases (decide (t < 0) || (decide (t > 2147483648) || decide (t < w.2.2)))
   ·simp only [cond_false]
    cases (decide (w.2.2 < 0) || (decide (w.2.2 > 2147483648) || (decide (w.2.1 < -1) || (decide (w.2.1 > w.2.2) || (w.2.1 != -1 && !w.1)))))
    ·simp only [cond_false]
     intro _ _
     by_cases a : aboveS k cut = -1
     ·rw [show (aboveS k cut != -1) = false by simpa using a]
      by_cases b : aboveS k' cut = -1
      ·rw [show (aboveS k' cut != -1) = false by simpa using b]
       simp only [cond_false]
       cases w.1
       ·simp only [Bool.not_false, cond_true]
        exact ⟨fun h => h, fun _ => rfl, fun h => by simp [overS] at h⟩
       ·simp only [Bool.not_true, cond_false]
        by_cases c : k.2 > clear
        ·rw [show decide (k.2 > clear) = true by simpa using c, show decide (k'.2 > clear) = true by rw [decide_eq_true_eq]; omega]
         refine ⟨fun _ => (by first | trivial | rfl), ?_⟩
         unfold overS LessSure; simp [a, b]
        ·rw [show decide (k.2 > clear) = false by simpa using c]
         cases decide (k'.2 > clear)
         ·simp only [cond_false]
          refine ⟨fun h => h, ?_⟩
          unfold overS LessSure; simp [a, b]
         ·simp only [cond_false, cond_true]
          refine ⟨fun _ => (by first | trivial | rfl), ?_⟩
          unfold overS LessSure; simp [b]
      ·have hb0 : aboveS k' cut = 0 := by omega
       rw [show (aboveS k' cut != -1) = true by rw [hb0]; rfl]
       simp only [cond_true]
       refine ⟨fun _ => (by first | trivial | rfl), ?_⟩
       unfold overS LessSure; simp [hb0]
     ·rw [show (aboveS k cut != -1) = true by simpa using a]
      have hb : aboveS k' cut ≠ -1 := by omega
      rw [show (aboveS k' cut != -1) = true by simpa using hb]
      simp only [cond_true]
      refine ⟨fun _ => (by first | trivial | rfl), ?_⟩
      unfold overS LessSure
      simp only [Bool.not_true, cond_false]
      rcases hab with hab | hab
      ·rw [hab]; simp
      ·rw [hab]; exact ⟨fun h => h, fun h => h⟩
    ·intro h; cases h
   ·intro h; cases h
  ·intro h1 h2
   simp only [cond_true] at h1
   rw [h1] at hlev; cases hlev
theorem one_wider {ss : List SensorT} {ms ms' : List MeasT} (h : Looser ms ms') (hm : ∀ m ∈ ms, 0 ≤ m.2.1) {fl fl' : List (Int × Int)} (hf : fl'.length = fl.length) (hf2 : ∀ (j : Nat) (k : Int × Int), fl[j]? = some k → ∃ k', fl'[j]? = some k' ∧ Holds k k') {t : Int} (ht : 0 ≤ t) (ht2 : t ≤ 2147483648) (c : CondT) (w : WatchT)
  (h0 : (oneS ss ms fl t c w).2.2 = 0) (h1 : (oneS ss ms' fl' t c w).2.2 = 0) :
  LessSure (oneS ss ms fl t c w).1 (oneS ss ms' fl' t c w).1 ∧ ((oneS ss ms fl t c w).2.1.1 = true → (oneS ss ms' fl' t c w).2.1.1 = true) := by
 have hk := known_wider (ss := ss) h hm c.2.1 ht ht2
 unfold oneS at h0 h1 ⊢
 simp only at h0 h1 ⊢
 generalize knownS ss ms c.2.1 t = k at *
 generalize knownS ss ms' c.2.1 t = k' at *
 revert h0 h1
 cases c.1 == 1
 ·simp only [cond_false]
  cases c.1 == 2
  ·simp only [cond_false]
   cases c.1 == 3
   ·simp only [cond_false]
    cases c.1 == 4
    ·simp only [cond_false]
     cases c.1 == 5
     ·intro _ _; exact ⟨less_of (.inl rfl), fun h => h⟩
     ·simp only [cond_true]
      intro _ _
      refine ⟨?_, fun h => h⟩
      unfold fedAt
      rw [hf]
      cases hh : has c.2.1 fl.length
      ·exact less_of (.inl rfl)
      ·obtain ⟨x, e1, e2⟩ := has_idx hh
       obtain ⟨x', e3, e4⟩ := hf2 _ x e1
       simp only [cond_true, e1, e3]
       exact less_neg (fed_wider e4 _)
    ·simp only [cond_true]
     intro _ _
     refine ⟨?_, fun h => h⟩
     rcases hk with ⟨rfl, rfl⟩ | ⟨n1, n2, _⟩
     ·exact less_of (.inr rfl)
     ·have e : ∀ x : Int × Int, x ≠ nothing → (x.1 == -1125899906842624 && x.2 == 1125899906842624) = false := by
       intro x hx
       rw [Bool.and_eq_false_iff, beq_eq_false_iff_ne, beq_eq_false_iff_ne]
       by_cases c : x.1 = -1125899906842624
       ·right; intro c2; exact hx (Prod.ext c c2)
       ·exact .inl c
      rw [e k n1, e k' n2]
      exact less_of (.inr rfl)
   ·simp only [cond_true]
    intro _ _
    refine ⟨?_, fun h => h⟩
    rcases hk with ⟨rfl, rfl⟩ | ⟨_, _, hk⟩
    ·exact less_of (.inr rfl)
    ·exact less_of (stopped_wider hk)
  ·simp only [cond_true]
   intro _ _
   refine ⟨?_, fun h => h⟩
   rcases hk with ⟨rfl, rfl⟩ | ⟨_, _, hk⟩
   ·exact less_of (.inr rfl)
   ·exact less_neg (above_wider hk _)
 ·simp only [cond_true]
  intro h0 h1
  have e0 : (stepS c.2.2.2.1 c.2.2.2.2.1 c.2.2.2.2.2 w k t).2 = 0 := by
   by_cases g : (stepS c.2.2.2.1 c.2.2.2.2.1 c.2.2.2.2.2 w k t).2 = 0
   ·exact g
   ·rw [show ((stepS c.2.2.2.1 c.2.2.2.2.1 c.2.2.2.2.2 w k t).2 != 0) = true by simpa using g] at h0
    exact h0
  have e1 : (stepS c.2.2.2.1 c.2.2.2.2.1 c.2.2.2.2.2 w k' t).2 = 0 := by
   by_cases g : (stepS c.2.2.2.1 c.2.2.2.2.1 c.2.2.2.2.2 w k' t).2 = 0
   ·exact g
   ·rw [show ((stepS c.2.2.2.1 c.2.2.2.2.1 c.2.2.2.2.2 w k' t).2 != 0) = true by simpa using g] at h1
    exact h1
  have hs := step_wider hk e0 e1
  rw [e0, e1]
  exact ⟨hs.2, hs.1⟩
section
variable {ps : List PlaceT} {rs : List RoadT} {fs : List FanT} {ds : List DoorT} {ss : List SensorT} {ks : List CondT} {zs : List ZoneT} {es : List Int}
theorem wider_meas (by_ : Int) (hb : 0 ≤ by_) (hb2 : by_ ≤ 255) (ms : List MeasT) (hl : ms.length ≤ 100) (hm : ∀ (k : Nat) (m : MeasT), ms[k]? = some m → SaidOk k m) (ws : List WatchT) (us : List (Int × Int)) (t : Int) :
  ∃ ms', gcp_1018 by_ ps rs fs ds ss ks zs es ms ws us t ms ms.length 0 = some (by_, (ps, rs, fs, ds, ss, ks, zs, es, ()), ms, ws, us, t, ms', ()) ∧ Looser ms ms' := by
 have b7 := Int.tmod_nonneg 7 hb
 have b7' := Int.tmod_lt_of_pos by_ (show 0 < (7 : Int) by omega)
 have b5 := Int.tmod_nonneg 5 hb
 have b5' := Int.tmod_lt_of_pos by_ (show 0 < (5 : Int) by omega)
 obtain ⟨z, hz, ms', e, g⟩ := loopL_inv (f := gcp_1018F) ms
  (fun k (b : List MeasT) => (by_, (ps, rs, fs, ds, ss, ks, zs, es, ()), ms, ws, us, t, b, (ms.length : Int), (k : Int), ()))
  (fun k b => b.length = ms.length ∧ (∀ (j : Nat) (m : MeasT), j < k → ms[j]? = some m → ∃ m', b[j]? = some m' ∧ m'.1 = m.1 ∧ m'.2.1 = m.2.1 ∧ ((m.2.2 = nothing ∧ m'.2.2 = nothing) ∨ (m.2.2 ≠ nothing ∧ Holds m.2.2 m'.2.2 ∧ -2000000000 ≤ m'.2.2.1 ∧ m'.2.2.2 ≤ 2000000000))) ∧ ∀ j, k ≤ j → b[j]? = ms[j]?)
  (fun z => ∃ ms', z = (by_, (ps, rs, fs, ds, ss, ks, zs, es, ()), ms, ws, us, t, ms', ()) ∧ Looser ms ms') (by
   intro k m b hmk ⟨q1, q2, q3⟩
   left
   have hk := lt_of_get hmk
   have hbk : b[k]? = some m := by rw [q3 k (Nat.le_refl _), hmk]
   have hlt := lt_of_get hbk
   have hs := (hm k m hmk).2.2.2
   have hin := inb (k := (k : Int)) (n := b.length) (by omega) (by omega)
   have hw := wrap_succ hk (show ms.length ≤ Big by simp only [Big]; omega)
   have step : ∀ x : MeasT, (x.1 = m.1 ∧ x.2.1 = m.2.1 ∧ ((m.2.2 = nothing ∧ x.2.2 = nothing) ∨ (m.2.2 ≠ nothing ∧ Holds m.2.2 x.2.2 ∧ -2000000000 ≤ x.2.2.1 ∧ x.2.2.2 ≤ 2000000000))) →
     ((b.set k x).length = ms.length ∧ (∀ (j : Nat) (m : MeasT), j < k + 1 → ms[j]? = some m → ∃ m', (b.set k x)[j]? = some m' ∧ m'.1 = m.1 ∧ m'.2.1 = m.2.1 ∧ ((m.2.2 = nothing ∧ m'.2.2 = nothing) ∨ (m.2.2 ≠ nothing ∧ Holds m.2.2 m'.2.2 ∧ -2000000000 ≤ m'.2.2.1 ∧ m'.2.2.2 ≤ 2000000000))) ∧ ∀ j, k + 1 ≤ j → (b.set k x)[j]? = ms[j]?) := by
    intro x hx
    refine ⟨by simp [q1], fun j m' hj hm' => ?_, fun j hj => ?_⟩
    ·by_cases hjk : k = j
     ·subst hjk
      rw [hmk] at hm'; cases hm'
      exact ⟨x, get_set hlt x, hx⟩
     ·rw [List.getElem?_set, if_neg hjk]
      exact q2 j m' (by omega) hm'
    ·rw [List.getElem?_set, if_neg (by omega)]
     exact q3 j (by omega)
   simp only [gcp_1018F, gcp_1018r, show decide ((k : Int) < (ms.length : Int)) = true by rw [decide_eq_true_eq]; omega, cond_true, hin, Int.toNat_natCast, hbk, Option.bind_some, gaz, Bool.and_true, List.length_set, get_set hlt, set_set_same, hw, wrap64 (n := by_) (by omega) (by omega)]
   rcases hs with hs | ⟨s1, s2, s3⟩
   ·have : (m.2.2.1 == -1125899906842624 && m.2.2.2 == 1125899906842624) = true := by rw [hs]; rfl
    rw [this]
    have := step m ⟨rfl, rfl, .inl ⟨hs, hs⟩⟩
    rw [set_self hbk] at this
    exact ⟨b, rfl, this⟩
   ·have hn : m.2.2 ≠ nothing := fun e => by rw [e] at s2; simp only [nothing] at s2; omega
    have : (m.2.2.1 == -1125899906842624 && m.2.2.2 == 1125899906842624) = false := by
     rw [Bool.and_eq_false_iff, beq_eq_false_iff_ne]; left; omega
    rw [this]
    have w1 : IntKind.wrap .i64 (m.2.2.1 - Int.tmod by_ 7) = m.2.2.1 - Int.tmod by_ 7 := wrap64 (by omega) (by omega)
    have w2 : IntKind.wrap .i64 (m.2.2.2 + Int.tmod by_ 5) = m.2.2.2 + Int.tmod by_ 5 := wrap64 (by omega) (by omega)
    simp only [Bool.not_false, cond_true, w1, w2]
    exact ⟨b.set k (m.1, m.2.1, m.2.2.1 - Int.tmod by_ 7, m.2.2.2 + Int.tmod by_ 5), rfl, step _ ⟨rfl, rfl, .inr ⟨hn, ⟨s1, by simp only; omega, by simp only; omega⟩, by simp only; omega, by simp only; omega⟩⟩⟩)
  (by
   intro b ⟨q1, q2, q3⟩
   exact ⟨(by_, (ps, rs, fs, ds, ss, ks, zs, es, ()), ms, ws, us, t, b, ()), by simp only [gcp_1018F, gcp_1018r, show decide ((ms.length : Int) < (ms.length : Int)) = false by simp, cond_false], b, rfl, q1, fun j m hm => q2 j m (lt_of_get hm) hm⟩) ms ⟨rfl, fun j m hj => by omega, fun _ _ => rfl⟩
 exact ⟨ms', by rw [← e, ← hz]; rfl, g⟩
theorem wider_spans (by_ : Int) (hb : 0 ≤ by_) (hb2 : by_ ≤ 255) (ms ms' : List MeasT) (ws : List WatchT) (us : List (Int × Int)) (hl : us.length ≤ 100) (hu : ∀ u ∈ us, u.1 ≤ u.2 ∧ -2000 ≤ u.1 ∧ u.2 ≤ 2000) (t : Int) :
  ∃ us', gcp_4090 by_ ps rs fs ds ss ks zs es ms ws us t ms' us us.length 0 = some ((ps, rs, fs, ds, ss, ks, zs, es, ()), ms, ws, us, t, ms', us', ()) ∧ us'.length = us.length ∧ ∀ (j : Nat) (k : Int × Int), us[j]? = some k → ∃ k', us'[j]? = some k' ∧ Holds k k' := by
 have b7 := Int.tmod_nonneg 9 hb
 have b7' := Int.tmod_lt_of_pos by_ (show 0 < (9 : Int) by omega)
 have b5 := Int.tmod_nonneg 4 hb
 have b5' := Int.tmod_lt_of_pos by_ (show 0 < (4 : Int) by omega)
 obtain ⟨z, hz, us', e, g1, g2⟩ := loopL_inv (f := gcp_4090F) us
  (fun k (b : List (Int × Int)) => (by_, (ps, rs, fs, ds, ss, ks, zs, es, ()), ms, ws, us, t, ms', b, (us.length : Int), (k : Int), ()))
  (fun k b => b.length = us.length ∧ (∀ (j : Nat) (m : Int × Int), j < k → us[j]? = some m → ∃ m', b[j]? = some m' ∧ Holds m m') ∧ ∀ j, k ≤ j → b[j]? = us[j]?)
  (fun z => ∃ us', z = ((ps, rs, fs, ds, ss, ks, zs, es, ()), ms, ws, us, t, ms', us', ()) ∧ us'.length = us.length ∧ ∀ (j : Nat) (k : Int × Int), us[j]? = some k → ∃ k', us'[j]? = some k' ∧ Holds k k') (by
   intro k m b hmk ⟨q1, q2, q3⟩
   left
   have hk := lt_of_get hmk
   have hbk : b[k]? = some m := by rw [q3 k (Nat.le_refl _), hmk]
   have hlt := lt_of_get hbk
   have hs := hu m (List.mem_of_getElem? hmk)
   have hin := inb (k := (k : Int)) (n := b.length) (by omega) (by omega)
   have hw := wrap_succ hk (show us.length ≤ Big by simp only [Big]; omega)
   have w1 : IntKind.wrap .i64 (m.1 - Int.tmod by_ 9) = m.1 - Int.tmod by_ 9 := wrap64 (by omega) (by omega)
   have w2 : IntKind.wrap .i64 (m.2 + Int.tmod by_ 4) = m.2 + Int.tmod by_ 4 := wrap64 (by omega) (by omega)
   refine ⟨b.set k (m.1 - Int.tmod by_ 9, m.2 + Int.tmod by_ 4), ?_, by simp [q1], fun j m' hj hm' => ?_, fun j hj => ?_⟩
   ·simp only [gcp_4090F, gcp_4090r, show decide ((k : Int) < (us.length : Int)) = true by rw [decide_eq_true_eq]; omega, cond_true, hin, Int.toNat_natCast, hbk, Option.bind_some, List.length_set, get_set hlt, set_set_same, hw, wrap64 (n := by_) (by omega) (by omega), w1, w2]
    rfl
   ·by_cases hjk : k = j
    ·subst hjk
     rw [hmk] at hm'; cases hm'
     exact ⟨_, get_set hlt _, hs.1, by simp only; omega, by simp only; omega⟩
    ·rw [List.getElem?_set, if_neg hjk]
     exact q2 j m' (by omega) hm'
   ·rw [List.getElem?_set, if_neg (by omega)]
    exact q3 j (by omega))
  (by
   intro b ⟨q1, q2, q3⟩
   exact ⟨((ps, rs, fs, ds, ss, ks, zs, es, ()), ms, ws, us, t, ms', b, ()), by simp only [gcp_4090F, gcp_4090r, show decide ((us.length : Int) < (us.length : Int)) = false by simp, cond_false], b, rfl, q1, fun j m hm => q2 j m (lt_of_get hm) hm⟩) us ⟨rfl, fun j m hj => by omega, fun _ _ => rfl⟩
 exact ⟨us', by rw [← e, ← hz]; rfl, g1, g2⟩
theorem wider_all (a b : List Int) (p q : List WatchT) (h1 : b.length = a.length) (h2 : p.length = a.length) (h3 : q.length = a.length) (hl : a.length ≤ 100)
  (h : ∀ (j : Nat) (x y : Int) (u v : WatchT), a[j]? = some x → b[j]? = some y → p[j]? = some u → q[j]? = some v → LessSure x y ∧ (u.1 = true → v.1 = true)) :
  gcp_65530 a p b q a.length 0 = some (.inr ()) := by
 obtain ⟨r, hr, e⟩ := loopL_inv (f := gcp_65530F) a
  (fun k (_ : Unit) => (a, p, b, q, (a.length : Int), (k : Int), ())) (fun _ _ => True) (fun r => r = .inr ()) (by
   intro k x _ hx _
   left
   have hk := lt_of_get hx
   obtain ⟨y, hy⟩ := get_of_lt (l := b) (k := k) (by omega)
   obtain ⟨u, hu⟩ := get_of_lt (l := p) (k := k) (by omega)
   obtain ⟨v, hv⟩ := get_of_lt (l := q) (k := k) (by omega)
   obtain ⟨⟨l1, l2⟩, l3⟩ := h k x y u v hx hy hu hv
   refine ⟨(), ?_, trivial⟩
   simp only [gcp_65530F, gcp_65530r, show decide ((k : Int) < (a.length : Int)) = true by rw [decide_eq_true_eq]; omega, cond_true, inb (k := (k : Int)) (n := b.length) (by omega) (by omega), inb (k := (k : Int)) (n := p.length) (by omega) (by omega), inb (k := (k : Int)) (n := q.length) (by omega) (by omega),
    Int.toNat_natCast, hx, hy, hu, hv, Option.bind_some, cond_some, cond_or, cond_and, wrap_succ hk (show a.length ≤ Big by simp only [Big]; omega)]
   have hbad : ((y == -1 && x != -1) || (y == 1 && x != 1)) = false ∧ (u.1 && !v.1) = false := by
    constructor
    ·rw [Bool.or_eq_false_iff, Bool.and_eq_false_iff, Bool.and_eq_false_iff]
     constructor
     ·by_cases c : y = -1
      ·right; simpa using l1 c
      ·left; simpa using c
     ·by_cases c : y = 1
      ·right; simpa using l2 c
      ·left; simpa using c
    ·cases hu1 : u.1
     ·rfl
     ·rw [l3 hu1]; rfl
   rw [show decide (0 ≤ (k : Int)) = true by rw [decide_eq_true_eq]; omega]
   simp only [Bool.true_and, cond_true, hx, Option.bind_some, cond_some, cond_or, cond_and]
   rw [hbad.1, hbad.2]
   rfl)
  (by
   intro _ _
   exact ⟨.inr (), by simp only [gcp_65530F, gcp_65530r, show decide ((a.length : Int) < (a.length : Int)) = false by simp, cond_false], rfl⟩) () trivial
 rw [← e]; exact hr
end
theorem cutoffWider_ok (codes : List Int) (by_ time : Int) (h : ∀ x ∈ codes, 0 ≤ x ∧ x ≤ 255) (h1 : 0 ≤ by_) (h2 : by_ ≤ 255) (h3 : 0 ≤ time) (h4 : time ≤ 255) :
  gcp codes by_ time = some (true, ()) := by
 unfold gcp
 obtain ⟨l, e0, c0⟩ := new_ok h
 obtain ⟨ps, rs, fs, ds, ss, ks, zs, tf, td, tf', td', pr, fl, j1, e1, c1, S, _, _⟩ := site_ok c0
 have hk := S.cl
 have hz := S.zl
 have hs := S.sl
 have hnr := S.made.nr
 have hfl := S.made.flen
 obtain ⟨ms, j2, e2, c2, m1, m2⟩ := said_ok (ps := ps) (rs := rs) (fs := fs) (ds := ds) (ks := ks) (zs := zs) (es := [1, 2, 1, 3]) c1 (by omega) (fun k s hks => ⟨(S.sen k s hks).1, (S.sen k s hks).2.1⟩)
 obtain ⟨ws, j3, e3, c3, w1, w2⟩ := watched_ok (ps := ps) (rs := rs) (fs := fs) (ds := ds) (ss := ss) (zs := zs) (es := [1, 2, 1, 3]) c2 (show ks.length ≤ 100 by omega)
 obtain ⟨us, j4, e4, c4, u1, u2⟩ := spans_ok c3 fl (by omega) S.made.fr
 obtain ⟨ms', e5, L⟩ := wider_meas (ps := ps) (rs := rs) (fs := fs) (ds := ds) (ss := ss) (ks := ks) (zs := zs) (es := [1, 2, 1, 3]) by_ h1 h2 ms (by omega) m2 ws us (20 + time)
 obtain ⟨us', e6, U1, U2⟩ := wider_spans (ps := ps) (rs := rs) (fs := fs) (ds := ds) (ss := ss) (ks := ks) (zs := zs) (es := [1, 2, 1, 3]) by_ h1 h2 ms ms' ws us (by omega) u2 (20 + time)
 have hV := S.values m2 m1 w1 w2 (show us.length = rs.length by omega) (t := 20 + time) (by omega) (by omega)
 have hm' : ∀ m ∈ ms', MeasOk m := by
  intro m hm
  obtain ⟨k, hk, rfl⟩ := List.getElem_of_mem hm
  obtain ⟨m0, hm0⟩ := get_of_lt (l := ms) (k := k) (by rw [← L.1]; exact hk)
  obtain ⟨m', g1, g2, g3, g4⟩ := L.2 k m0 hm0
  have : m' = ms'[k] := Option.some.inj (g1.symm.trans (List.getElem?_eq_getElem hk))
  rw [← this]
  have s0 := m2 k m0 hm0
  obtain ⟨_, s1, s2, s3⟩ := s0
  unfold MeasOk
  rcases g4 with ⟨_, g4⟩ | ⟨g5, g4, g6, g7⟩
  ·rw [g3, g4]; simp only [nothing]; omega
  ·rcases s3 with s3 | ⟨s4, s5, s6⟩
   ·exact absurd s3 g5
   ·obtain ⟨o1, o2, o3⟩ := g4
    omega
 have hV' : gcg ps rs fs ds ss ks zs [1, 2, 1, 3] ms' ws us' (20 + time) = some ((List.zipWith (fun c w => (oneS ss ms' us' (20 + time) c w).1) ks ws, List.zipWith (fun c w => (oneS ss ms' us' (20 + time) c w).2.1) ks ws, 0, ()), ()) := by
  rw [values_eq S.big hm' ws us' (20 + time), S.check]
  unfold valuesS
  rw [show ((ms'.length : Int) != (ss.length : Int) || ((ws.length : Int) != (ks.length : Int) || (us'.length : Int) != (rs.length : Int))) = false by simp only [Bool.or_eq_false_iff, bne_eq_false_iff_eq]; have := L.1; omega,
   show (decide (20 + time < 0) || decide (20 + time > 2147483648)) = false by simp only [Bool.or_eq_false_iff, decide_eq_false_iff_not]; omega, vals_fine S.con w2 ms' us' (by omega) (by omega)]
  rfl
 rw [e0]
 simp only [Option.bind_some]
 rw [e1]
 simp only [Option.bind_some]
 rw [e2]
 simp only [Option.bind_some]
 rw [e3]
 simp only [Option.bind_some]
 rw [e4]
 simp only [Option.bind_some]
 rw [show decide ((0 + ms.length) * 32 ≤ 140737488355328) = true by rw [decide_eq_true_eq]; omega]
 simp only [cond_true]
 rw [wrap64 (n := time) (by omega) (by omega), wrap64 (n := 20 + time) (by omega) (by omega), e5]
 simp only [Option.bind_some]
 rw [show decide ((0 + us.length) * 16 ≤ 140737488355328) = true by rw [decide_eq_true_eq]; omega]
 simp only [cond_true]
 rw [e6]
 simp only [Option.bind_some]
 rw [hV, hV']
 have l1 : (List.zipWith (fun c w => (oneS ss ms us (20 + time) c w).1) ks ws).length = ks.length := by rw [List.length_zipWith]; omega
 have l2 : (List.zipWith (fun c w => (oneS ss ms' us' (20 + time) c w).1) ks ws).length = ks.length := by rw [List.length_zipWith]; omega
 have l3 : (List.zipWith (fun c w => (oneS ss ms us (20 + time) c w).2.1) ks ws).length = ks.length := by rw [List.length_zipWith]; omega
 have l4 : (List.zipWith (fun c w => (oneS ss ms' us' (20 + time) c w).2.1) ks ws).length = ks.length := by rw [List.length_zipWith]; omega
 simp only [Option.bind_some, cond_some, cond_or, bne_self_eq_false, Bool.false_or, l1, l2, l3, l4, cond_false]
 have hall := wider_all (List.zipWith (fun c w => (oneS ss ms us (20 + time) c w).1) ks ws) (List.zipWith (fun c w => (oneS ss ms' us' (20 + time) c w).1) ks ws) (List.zipWith (fun c w => (oneS ss ms us (20 + time) c w).2.1) ks ws) (List.zipWith (fun c w => (oneS ss ms' us' (20 + time) c w).2.1) ks ws)
  (by omega) (by omega) (by omega) (by omega) (by
   intro j x y u v hx hy hu hv
   rw [List.getElem?_zipWith] at hx hy hu hv
   cases hc : ks[j]? with
   | none => rw [hc] at hx; cases hx
   | some c =>
    cases hw : ws[j]? with
    | none => rw [hc, hw] at hx; cases hx
    | some w =>
     rw [hc, hw] at hx hy hu hv
     simp only [Option.some.injEq] at hx hy hu hv
     have C := S.con c (List.mem_of_getElem? hc)
     have W := w2 w (List.mem_of_getElem? hw)
     have := one_wider (ss := ss) L (fun m hm => by
      obtain ⟨k, hk, rfl⟩ := List.getElem_of_mem hm
      exact (m2 k _ (List.getElem?_eq_getElem hk)).2.1) U1 U2 (t := 20 + time) (by omega) (by omega) c w (one_fine C W ms us (by omega) (by omega)) (one_fine C W ms' us' (by omega) (by omega))
     rw [hx, hy, hu, hv] at this
     exact this)
 rw [l1] at hall
 rw [hall]
 simp only [Option.bind_some, sumElim_inr, awake_ok]
end Go.V

