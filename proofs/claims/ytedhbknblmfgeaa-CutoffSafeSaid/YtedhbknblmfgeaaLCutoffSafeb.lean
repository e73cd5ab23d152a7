/-
  Plain Lean: what the functions of CutoffSafe make of all inputs, part 2.
-/
import Derived.Test.YtedhbknblmfgeaaLCutoffSafea
set_option linter.all false
namespace Go.V
open Go
section
variable {ps : List PlaceT} {rs : List RoadT} {fs : List FanT} {ds : List DoorT} {ss : List SensorT} {ks : List CondT} {zs : List ZoneT} {es : List Int}
theorem mem_now {vals : List Int} {zs : List ZoneT} {cs : List CutT} {n i : Nat} (hi : i < n) : ((i : Int) ∈ nowS vals zs cs n) ↔ firedAt vals zs cs i = true := by
  unfold nowS
  rw [List.mem_map]
  constructor
  · rintro ⟨a, ha, e⟩
    rw [List.mem_filter] at ha
    have : a = i := by
      have e : (a : Int) = (i : Int) := e
      omega
    subst this; exact ha.2
  · intro h
    exact ⟨i, List.mem_filter.2 ⟨List.mem_range.2 hi, h⟩, rfl⟩
end
end Go.V

namespace Go.V
open Go
def SpanOk (k : Int × Int) : Prop := k = nothing ∨ (k.1 ≤ k.2 ∧ -1000000000 ≤ k.1 ∧ k.2 ≤ 1000000000)
theorem value_ok {s : SensorT} (h : SenOk s) (h0 : 0 ≤ s.1) (h1 : s.1 ≤ 255) {raw : Int} (hr : 0 ≤ raw) (hr2 : raw ≤ 65535) :
    ∃ lo hi, gbb s.1 s.2.1 s.2.2.1 s.2.2.2.1 s.2.2.2.2.1 s.2.2.2.2.2.1 s.2.2.2.2.2.2.1 s.2.2.2.2.2.2.2 raw = some ((lo, hi, ()), ()) ∧ SpanOk (lo, hi) := by
  have hc := h.check h0 h1
  unfold SenOk at h
  unfold gbb
  simp only [refSensor_eq, Option.bind_some, rin, cond_some, cond_or, gar, gba, gaz, hc]
  rw [show inB 0 65535 raw = true by unfold inB; simp only [Bool.and_eq_true, decide_eq_true_eq]; omega]
  simp only [bne_self_eq_false, Bool.not_true, Bool.or_false, cond_false]
  have two : ∀ a b c : Int, ∃ lo hi, gbb_235 raw s.1 s.2.1 s.2.2.1 s.2.2.2.1 s.2.2.2.2.1 s.2.2.2.2.2.1 s.2.2.2.2.2.2.1 s.2.2.2.2.2.2.2 a b c = some ((lo, hi, ()), ()) ∧ SpanOk (lo, hi) := by
    intro a b c
    unfold gbb_235 gbb_471
    have hn : SpanOk (-1125899906842624, 1125899906842624) := .inl rfl
    have hx : SpanOk (raw, raw) := .inr ⟨by simp, by simp only; omega, by simp only; omega⟩
    cases s.2.1 == 6
    · simp only [cond_false, gaz]
      cases decide (raw > c)
      · exact ⟨_, _, rfl, hx⟩
      · exact ⟨_, _, rfl, hn⟩
    · simp only [cond_true, gaz]
      cases decide (raw > 5)
      · exact ⟨_, _, rfl, hx⟩
      · exact ⟨_, _, rfl, hn⟩
  by_cases hs : s.2.1 ≥ 4
  · rw [show decide (s.2.1 ≥ 4) = true by simpa using hs]
    simp only [cond_true]
    cases s.2.1 == 5
    · obtain ⟨lo, hi, e, g⟩ := two 0 0 1
      exact ⟨lo, hi, by simp only [cond_false, e, Option.bind_some], g⟩
    · obtain ⟨lo, hi, e, g⟩ := two 0 0 2
      exact ⟨lo, hi, by simp only [cond_true, e, Option.bind_some], g⟩
  · rw [show decide (s.2.1 ≥ 4) = false by simpa using hs]
    simp only [cond_false]
    have p1 : 0 ≤ s.2.2.2.2.1 * raw := Int.mul_nonneg (by omega) hr
    have p2 : s.2.2.2.2.1 * raw ≤ 2000 * 65535 := Int.mul_le_mul (by omega) hr2 hr (by omega)
    rw [wrap64 (n := s.2.2.2.2.1 * raw) (by omega) (by omega), floor_eq (by omega) (by omega) (by omega), ceil_eq (by omega) (by omega) (by omega)]
    simp only [Option.bind_some]
    generalize s.2.2.2.2.1 * raw = p at *
    rw [wrap64 (n := s.2.2.2.1 + p / 1000) (by omega) (by omega), wrap64 (n := s.2.2.2.1 + p / 1000 - s.2.2.2.2.2.1) (by omega) (by omega), wrap64 (n := s.2.2.2.1 + -(-p / 1000)) (by omega) (by omega), wrap64 (n := s.2.2.2.1 + -(-p / 1000) + s.2.2.2.2.2.1) (by omega) (by omega)]
    simp only [cond_max0]
    cases (s.2.1 == 1 || s.2.1 == 2)
    · exact ⟨_, _, rfl, .inr ⟨by simp only; omega, by simp only; omega, by simp only; omega⟩⟩
    · exact ⟨_, _, rfl, .inr ⟨by simp only; omega, by simp only; omega, by simp only; omega⟩⟩
def SaidOk (k : Nat) (m : MeasT) : Prop := (m.1 = -1 ∨ m.1 = k) ∧ 0 ≤ m.2.1 ∧ m.2.1 ≤ 19 ∧ SpanOk m.2.2
theorem SaidOk.meas {k : Nat} {m : MeasT} (h : SaidOk k m) : MeasOk m := by
  obtain ⟨_, h1, h2, h3⟩ := h
  unfold MeasOk
  rcases h3 with h3 | ⟨h3, h4, h5⟩
  · rw [h3]; simp only [nothing]; omega
  · omega
section
variable {l : List Int} {ps : List PlaceT} {rs : List RoadT} {fs : List FanT} {ds : List DoorT} {ss : List SensorT} {ks : List CondT} {zs : List ZoneT} {es : List Int}
theorem said_ok {i : Int} (h : Codes l i) (hl : ss.length ≤ 100) (hs : ∀ (k : Nat) (s : SensorT), ss[k]? = some s → s.1 = k ∧ SenOk s) :
    ∃ ms j, gbc l i ps rs fs ds ss ks zs es = some (ms, ((l, j, ()), ())) ∧ Codes l j ∧ ms.length = ss.length ∧ ∀ (k : Nat) (m : MeasT), ms[k]? = some m → SaidOk k m := by
  obtain ⟨z, hz, ms, j, e, g1, g2, g3⟩ := loopL_inv (f := gbc_58F) ss
    (fun k (b : Int × List MeasT) => ((l, b.1, ()), b.2, ss, (ss.length : Int), (k : Int), ()))
    (fun k b => Codes l b.1 ∧ b.2.length = k ∧ ∀ (j : Nat) (m : MeasT), b.2[j]? = some m → SaidOk j m)
    (fun z => ∃ ms j, z = ((l, j, ()), ms, ()) ∧ Codes l j ∧ ms.length = ss.length ∧ ∀ (k : Nat) (m : MeasT), ms[k]? = some m → SaidOk k m) (by
      rintro k s ⟨i', ms⟩ hsk ⟨q1, q2, q3⟩
      left
      simp only at q1 q2 q3
      have hk := lt_of_get hsk
      obtain ⟨s0, S⟩ := hs k s hsk
      obtain ⟨u1, s1, f1, p1, c1, d1⟩ := next_ok q1 (n := 20) (by omega)
      obtain ⟨u2, s2, f2, p2, c2, d2⟩ := next_ok p1 (n := 200) (by omega)
      obtain ⟨lo, hi, f3, V3⟩ := value_ok S (by omega) (by omega) (raw := u2) (by omega) (by omega)
      have snoc : ∀ x, SaidOk k x → (ms ++ [x]).length = k + 1 ∧ ∀ (j : Nat) (m : MeasT), (ms ++ [x])[j]? = some m → SaidOk j m := by
        intro x hx
        refine ⟨by simp [q2], fun j m hm => ?_⟩
        rcases get_snoc hm with hm | ⟨e1, e2⟩
        · exact q3 j m hm
        · subst e2; rw [e1, q2]; exact hx
      have hlen : decide ((ms.length + 1) * 32 ≤ 140737488355328) = true := by rw [decide_eq_true_eq]; omega
      have fin : ∀ (i0 lo hi : Int), Codes l i0 → SpanOk (lo, hi) → ∃ b' : Int × List MeasT, ((gbc_14951 l i0 ms (k : Int) u1 lo hi ss (ss.length : Int) (k : Int)).bind fun z1523 =>
          (some (.inl ((z1523.1.1, z1523.1.2.1, ()), z1523.2.1, z1523.2.2.1, z1523.2.2.2.1, (IntKind.wrap .i64 (z1523.2.2.2.2.1 + 1)), ())) : Option ((CB × List MeasT × List SensorT × Int × Int × Unit) ⊕ (CB × List MeasT × Unit)))) = some (.inl ((l, b'.1, ()), b'.2, ss, (ss.length : Int), ((k + 1 : Nat) : Int), ())) ∧
          Codes l b'.1 ∧ b'.2.length = k + 1 ∧ ∀ (j : Nat) (m : MeasT), b'.2[j]? = some m → SaidOk j m := by
        intro i0 lo hi hc hV
        obtain ⟨b, j1, e1, c1'⟩ := one_ok hc (n := 5) (by omega)
        unfold gbc_14951 gbc_29903
        simp only [e1, Option.bind_some, hlen, cond_true, wrap_succ hk (show ss.length ≤ Big by simp only [Big]; omega)]
        cases b
        · exact ⟨(j1, ms ++ [((k : Int), u1, lo, hi)]), by simp only [cond_false, Option.bind_some, wrap_succ hk (show ss.length ≤ Big by simp only [Big]; omega)]; rfl, c1', snoc _ ⟨.inr rfl, c1, by simp only; omega, hV⟩⟩
        · exact ⟨(j1, ms ++ [(-1, 0, 0, 0)]), by simp only [cond_true, Option.bind_some, wrap_succ hk (show ss.length ≤ Big by simp only [Big]; omega)]; rfl, c1', snoc _ ⟨.inl rfl, by simp, by simp, .inr (by simp)⟩⟩
      simp only [gbc_58F, gbc_58r, show decide ((k : Int) < (ss.length : Int)) = true by rw [decide_eq_true_eq]; omega, cond_true, idx_get hsk, Option.bind_some, f1, f2, f3, gar]
      by_cases hst : s.2.1 ≥ 4
      · obtain ⟨u3, s3, f4, p4, c4, d4⟩ := next_ok p2 (n := 3) (by omega)
        obtain ⟨lo2, hi2, f5, V5⟩ := value_ok S (by omega) (by omega) (raw := u3) (by omega) (by omega)
        rw [show decide (s.2.1 ≥ 4) = true by simpa using hst]
        simp only [cond_true, f4, f5, Option.bind_some]
        exact fin s3 lo2 hi2 p4 V5
      · rw [show decide (s.2.1 ≥ 4) = false by simpa using hst]
        simp only [cond_false]
        exact fin s2 lo hi p2 V3)
    (by
      rintro ⟨i', ms⟩ ⟨q1, q2, q3⟩
      exact ⟨((l, i', ()), ms, ()), by simp only [gbc_58F, gbc_58r, show decide ((ss.length : Int) < (ss.length : Int)) = false by simp, cond_false], ms, i', rfl, q1, q2, q3⟩) (i, []) ⟨h, rfl, by simp⟩
  refine ⟨ms, j, ?_, g1, g2, g3⟩
  have hz' : gbc_58 l i [] ss ss.length 0 = some z := hz
  unfold gbc
  rw [hz', e]; rfl
def WatchOk (w : WatchT) : Prop := 0 ≤ w.2.2 ∧ w.2.2 ≤ 9 ∧ -1 ≤ w.2.1 ∧ w.2.1 ≤ w.2.2 ∧ (w.2.1 ≠ -1 → w.1 = true)
theorem watched_ok {i : Int} (h : Codes l i) (hl : ks.length ≤ 100) :
    ∃ ws j, gbe l i ps rs fs ds ss ks zs es = some (ws, ((l, j, ()), ())) ∧ Codes l j ∧ ws.length = ks.length ∧ ∀ w ∈ ws, WatchOk w := by
  obtain ⟨z, hz, ws, j, e, g1, g2, g3⟩ := loopL_up (f := gbe_58F) (ks.length : Int)
    (fun k (b : Int × List WatchT) => ((l, b.1, ()), b.2, (ks.length : Int), k, ()))
    (fun k b => Codes l b.1 ∧ 0 ≤ k ∧ k ≤ ks.length ∧ (b.2.length : Int) = k ∧ ∀ w ∈ b.2, WatchOk w)
    (fun z => ∃ ws j, z = ((l, j, ()), ws, ()) ∧ Codes l j ∧ ws.length = ks.length ∧ ∀ w ∈ ws, WatchOk w) (by
      rintro k ⟨i', ws⟩ hk ⟨q1, q2, q3, q4, q5⟩
      simp only at q1 q4 q5
      obtain ⟨u1, s1, f1, p1, c1, d1⟩ := next_ok q1 (n := 3) (by omega)
      have hlen : decide ((ws.length + 1) * 24 ≤ 140737488355328) = true := by rw [decide_eq_true_eq]; omega
      have snoc : ∀ x, WatchOk x → ∀ w ∈ ws ++ [x], WatchOk w := by
        intro x hx w hw
        rcases List.mem_append.1 hw with hw | hw
        · exact q5 w hw
        · simp only [List.mem_singleton] at hw; subst hw; exact hx
      simp only [gbe_58F, gbe_58r, show decide (k < (ks.length : Int)) = true by simpa using hk, cond_true, gbd, Option.bind_some, f1, gbe_7475, hlen, wrap64 (n := k + 1) (by omega) (by omega)]
      cases u1 == 1
      · simp only [cond_false]
        cases u1 == 2
        · exact ⟨(s1, ws ++ [(true, -1, 0)]), rfl, p1, by omega, by omega, by simp; omega, snoc _ ⟨by simp, by simp, by simp, by simp, fun _ => rfl⟩⟩
        · obtain ⟨u2, s2, f2, p2, c2, d2⟩ := next_ok p1 (n := 9) (by omega)
          simp only [cond_true, f2, Option.bind_some]
          exact ⟨(s2, ws ++ [(true, u2, 9)]), rfl, p2, by omega, by omega, by simp; omega, snoc _ ⟨by simp, by simp, by simp only; omega, by simp only; omega, fun _ => rfl⟩⟩
      · exact ⟨(s1, ws ++ [(false, -1, 0)]), rfl, p1, by omega, by omega, by simp; omega, snoc _ ⟨by simp, by simp, by simp, by simp, fun h => absurd rfl h⟩⟩)
    (by
      rintro k ⟨i', ws⟩ hk ⟨q1, q2, q3, q4, q5⟩
      simp only at q1 q4 q5
      exact ⟨((l, i', ()), ws, ()), by simp only [gbe_58F, gbe_58r, show decide (k < (ks.length : Int)) = false by simpa using hk, cond_false], ws, i', rfl, q1, by omega, q5⟩) 0 (i, []) ⟨h, by omega, by omega, rfl, by simp⟩
  refine ⟨ws, j, ?_, g1, g2, g3⟩
  have hz' : gbe_58 l i [] ks.length 0 = some z := hz
  unfold gbe
  rw [hz', e]; rfl
theorem spans_ok {i : Int} (h : Codes l i) (fl : List Int) (hl : fl.length ≤ 1000) (hf : ∀ q ∈ fl, -1000 ≤ q ∧ q ≤ 1000) :
    ∃ us j, gbf l i fl = some (us, ((l, j, ()), ())) ∧ Codes l j ∧ us.length = fl.length ∧ ∀ u ∈ us, u.1 ≤ u.2 ∧ -2000 ≤ u.1 ∧ u.2 ≤ 2000 := by
  obtain ⟨z, hz, us, j, e, g1, g2, g3⟩ := loopL_inv (f := gbf_58F) fl
    (fun k (b : Int × List (Int × Int)) => ((l, b.1, ()), fl, b.2, (k : Int), ()))
    (fun k b => Codes l b.1 ∧ b.2.length = k ∧ ∀ u ∈ b.2, u.1 ≤ u.2 ∧ -2000 ≤ u.1 ∧ u.2 ≤ 2000)
    (fun z => ∃ us j, z = ((l, j, ()), us, ()) ∧ Codes l j ∧ us.length = fl.length ∧ ∀ u ∈ us, u.1 ≤ u.2 ∧ -2000 ≤ u.1 ∧ u.2 ≤ 2000) (by
      rintro k q ⟨i', us⟩ hq ⟨q1, q2, q3⟩
      left
      simp only at q1 q2 q3
      have hk := lt_of_get hq
      have hqr := hf q (List.mem_of_getElem? hq)
      obtain ⟨u1, s1, f1, p1, c1, d1⟩ := next_ok q1 (n := 12) (by omega)
      obtain ⟨u2, s2, f2, p2, c2, d2⟩ := next_ok p1 (n := 12) (by omega)
      refine ⟨(s2, us ++ [(q - u1, q + u2)]), by
        simp only [gbf_58F, gbf_58r, show decide ((k : Int) < (fl.length : Int)) = true by rw [decide_eq_true_eq]; omega, cond_true, idx_get hq, Option.bind_some, f1, f2, wrap64 (n := q - u1) (by omega) (by omega), wrap64 (n := q + u2) (by omega) (by omega), wrap_succ hk (show fl.length ≤ Big by simp only [Big]; omega)]
        rw [show decide ((us.length + 1) * 16 ≤ 140737488355328) = true by rw [decide_eq_true_eq]; omega]; rfl, p2, by simp [q2], fun u hu => ?_⟩
      rcases List.mem_append.1 hu with hu | hu
      · exact q3 u hu
      · simp only [List.mem_singleton] at hu; subst hu; simp only; omega)
    (by
      rintro ⟨i', us⟩ ⟨q1, q2, q3⟩
      exact ⟨((l, i', ()), us, ()), by simp only [gbf_58F, gbf_58r, show decide ((fl.length : Int) < (fl.length : Int)) = false by simp, cond_false], us, i', rfl, q1, q2, q3⟩) (i, []) ⟨h, rfl, by simp⟩
  refine ⟨us, j, ?_, g1, g2, g3⟩
  have hz' : gbf_58 l i fl [] 0 = some z := hz
  unfold gbf
  rw [hz', e]; rfl
end
theorem step_fine {nr : Nat} {ss : List SensorT} {c : CondT} (hc : CondOk nr ss c) {w : WatchT} (hw : WatchOk w) (k : Int × Int) {t : Int} (h1 : 9 ≤ t) (h2 : t ≤ 2147483648) : (stepS c.2.2.2.1 c.2.2.2.2.1 c.2.2.2.2.2 w k t).2 = 0 := by
  obtain ⟨w1, w2, w3, w4, w5⟩ := hw
  unfold stepS
  rw [hc.level, show (decide (t < 0) || (decide (t > 2147483648) || decide (t < w.2.2))) = false by simp only [Bool.or_eq_false_iff, decide_eq_false_iff_not]; omega]
  have h5 : (w.2.1 != -1 && !w.1) = false := by
    by_cases h : w.2.1 = -1
    · simp [h]
    · simp [w5 h]
  rw [show (decide (w.2.2 < 0) || (decide (w.2.2 > 2147483648) || (decide (w.2.1 < -1) || (decide (w.2.1 > w.2.2) || (w.2.1 != -1 && !w.1))))) = false by
    rw [h5]; simp only [Bool.or_eq_false_iff, decide_eq_false_iff_not, Bool.or_false]; omega]
  simp only [bne_self_eq_false, cond_false]
  cases aboveS k c.2.2.2.1 != -1 <;> cases w.1 <;> cases decide (k.2 > c.2.2.2.2.1) <;> cases decide (t - (bif decide (w.2.1 < 0) then t else w.2.1) ≥ c.2.2.2.2.2) <;> rfl
theorem one_fine {nr : Nat} {ss : List SensorT} {c : CondT} (hc : CondOk nr ss c) {w : WatchT} (hw : WatchOk w) (ms : List MeasT) (fl : List (Int × Int)) {t : Int} (h1 : 9 ≤ t) (h2 : t ≤ 2147483648) : (oneS ss ms fl t c w).2.2 = 0 := by
  unfold oneS
  simp only
  rw [step_fine hc hw _ h1 h2]
  cases c.1 == 1 <;> cases c.1 == 2 <;> cases c.1 == 3 <;> cases c.1 == 4 <;> cases c.1 == 5 <;> rfl
theorem vals_fine {nr : Nat} {ss : List SensorT} {cs : List CondT} (hc : ∀ c ∈ cs, CondOk nr ss c) {ws : List WatchT} (hw : ∀ w ∈ ws, WatchOk w) (ms : List MeasT) (fl : List (Int × Int)) {t : Int} (h1 : 9 ≤ t) (h2 : t ≤ 2147483648) :
    valsS (oneS ss ms fl t) cs ws = (List.zipWith (fun c w => (oneS ss ms fl t c w).1) cs ws, List.zipWith (fun c w => (oneS ss ms fl t c w).2.1) cs ws, 0) := by
  unfold valsS
  have : errL (errAt (oneS ss ms fl t) ws) cs 0 = 0 := errL_all fun i c hci => by
    unfold errAt
    cases hwi : ws[i]? with
    | none => rfl
    | some w => exact one_fine (hc c (List.mem_of_getElem? hci)) (hw w (List.mem_of_getElem? hwi)) ms fl h1 h2
  rw [this]; rfl
theorem SiteOk.values {ps : List PlaceT} {rs : List RoadT} {fs : List FanT} {ds : List DoorT} {ss : List SensorT} {cs : List CondT} {zs : List ZoneT} {es tf td pr fl : List Int} (S : SiteOk ps rs fs ds ss cs zs es tf td pr fl)
    {ms : List MeasT} (hm : ∀ (k : Nat) (m : MeasT), ms[k]? = some m → SaidOk k m) (hml : ms.length = ss.length) {ws : List WatchT} (hwl : ws.length = cs.length) (hw : ∀ w ∈ ws, WatchOk w) {us : List (Int × Int)} (hul : us.length = rs.length) {t : Int} (h1 : 9 ≤ t) (h2 : t ≤ 2147483648) :
    gcg ps rs fs ds ss cs zs es ms ws us t = some ((List.zipWith (fun c w => (oneS ss ms us t c w).1) cs ws, List.zipWith (fun c w => (oneS ss ms us t c w).2.1) cs ws, 0, ()), ()) := by
  rw [values_eq S.big (fun m hmm => by
    obtain ⟨k, hk, rfl⟩ := List.getElem_of_mem hmm
    exact (hm k _ (List.getElem?_eq_getElem hk)).meas) ws us t, S.check]
  unfold valuesS
  rw [show ((ms.length : Int) != (ss.length : Int) || ((ws.length : Int) != (cs.length : Int) || (us.length : Int) != (rs.length : Int))) = false by simp only [Bool.or_eq_false_iff, bne_eq_false_iff_eq]; omega,
    show (decide (t < 0) || decide (t > 2147483648)) = false by simp only [Bool.or_eq_false_iff, decide_eq_false_iff_not]; omega, vals_fine S.con hw ms us h1 h2]
  rfl
end Go.V

namespace Go.V
open Go
def Turns (v v' : List Int) : Prop := v'.length = v.length ∧ ∀ (j : Nat) (x : Int), v[j]? = some x → ∃ x', v'[j]? = some x' ∧ (x' = x ∨ (x = 0 ∧ (x' = -1 ∨ x' = 1)))
theorem Turns.cond {v v' : List Int} (h : Turns v v') (c : Int) : condV v c = 0 ∨ condV v' c = condV v c := by
  unfold condV
  cases hv : v[c.toNat]? with
  | none => exact .inl rfl
  | some x =>
    obtain ⟨x', hx', h2⟩ := h.2 _ _ hv
    rw [hx']
    rcases h2 with rfl | ⟨rfl, _⟩
    · exact .inr rfl
    · left; simp
theorem valN_turns (l : List NodeT) {v v' : List Int} (h : Turns v v') : ∀ n i, valN l v n i = 0 ∨ valN l v' n i = valN l v n i
  | 0, _ => .inl rfl
  | n + 1, i => by
    unfold valN
    cases l[i]? with
    | none => exact .inl rfl
    | some x =>
      simp only
      have h1 := valN_turns l h n x.2.2.1.toNat
      have h2 := valN_turns l h n x.2.2.2.toNat
      have r1 := valN_range l v n x.2.2.1.toNat
      have r2 := valN_range l v n x.2.2.2.toNat
      have r3 := valN_range l v' n x.2.2.1.toNat
      have r4 := valN_range l v' n x.2.2.2.toNat
      split
      · exact h.cond x.2.1
      · split
        · omega
        · split <;> omega
theorem eval_turns (l : List NodeT) {v v' : List Int} (h : Turns v v') : evalS l v = 0 ∨ evalS l v' = evalS l v := by
  unfold evalS
  cases rightS l
  · exact .inl rfl
  · exact valN_turns l h _ _
theorem wrapU64 {n : Int} (h1 : 0 ≤ n) (h2 : n ≤ 18446744073709551615) : IntKind.wrap .u64 n = n := by
  unfold IntKind.wrap
  have e1 : (2 ^ IntKind.bits .u64 : Int) = 18446744073709551616 := by decide
  have e3 : IntKind.signed .u64 = false := rfl
  simp only [e1, e3, Bool.false_and]
  simp only [Bool.false_eq_true, if_false]
  omega
section
variable {ps : List PlaceT} {rs : List RoadT} {fs : List FanT} {ds : List DoorT} {ss : List SensorT} {ks : List CondT} {zs : List ZoneT} {es : List Int}
theorem safe_cuts {l : List Int} {i : Int} (h : Codes l i) (turn t e : Int) (v : List Int) (n : Nat) (hn : n ≤ 100) :
    ∃ us, gcu_2042 turn l i ps rs fs ds ss ks zs es t v e (List.replicate n (false, 0, 0)) n 0 = some (turn, (ps, rs, fs, ds, ss, ks, zs, es, ()), t, v, e, us, ()) ∧ us.length = n := by
  obtain ⟨z, hz, us, e, g⟩ := loopL_up (f := gcu_2042F) (n : Int)
    (fun k (b : Int × List CutT) => (turn, (l, b.1, ()), (ps, rs, fs, ds, ss, ks, zs, es, ()), t, v, e, b.2, (n : Int), k, ()))
    (fun k b => Codes l b.1 ∧ 0 ≤ k ∧ k ≤ n ∧ b.2.length = n)
    (fun z => ∃ us, z = (turn, (ps, rs, fs, ds, ss, ks, zs, es, ()), t, v, e, us, ()) ∧ us.length = n) (by
      rintro k ⟨i', us⟩ hk ⟨q1, q2, q3, q4⟩
      simp only at q1 q4
      obtain ⟨u, s1, f1, p1⟩ := one_ok q1 (n := 3) (by omega)
      obtain ⟨x, hx⟩ := get_of_lt (l := us) (k := k.toNat) (by omega)
      refine ⟨(s1, us.set k.toNat (u, -1, 0)), by
        simp only [gcu_2042F, gcu_2042r, show decide (k < (n : Int)) = true by simpa using hk, cond_true, f1, Option.bind_some, inb (k := k) (n := us.length) q2 (by omega), hx, wrap64 (n := k + 1) (by omega) (by omega)], p1, by omega, by omega, by simp [q4]⟩)
    (by
      rintro k ⟨i', us⟩ hk ⟨q1, q2, q3, q4⟩
      exact ⟨_, by simp only [gcu_2042F, gcu_2042r, show decide (k < (n : Int)) = false by simpa using hk, cond_false], us, rfl, q4⟩) 0 (i, List.replicate n (false, 0, 0)) ⟨h, by omega, by omega, by simp⟩
  exact ⟨us, by rw [← e, ← hz]; rfl, g⟩
theorem safe_turns (turn : Int) (v : List Int) (cuts y : List CutT) (now : List Int) (hv : v.length ≤ 100) :
    ∃ v', gcu_16378 turn ps rs fs ds ss ks zs es v cuts y now v.length 0 = some ((ps, rs, fs, ds, ss, ks, zs, es, ()), v', cuts, y, now, ()) ∧ Turns v v' := by
  obtain ⟨z, hz, v', e, g⟩ := loopL_inv (f := gcu_16378F) v
    (fun k (b : List Int) => (turn, (ps, rs, fs, ds, ss, ks, zs, es, ()), b, cuts, y, now, (v.length : Int), (k : Int), ()))
    (fun k b => Turns v b ∧ ∀ j, k ≤ j → b[j]? = v[j]?)
    (fun z => ∃ v', z = ((ps, rs, fs, ds, ss, ks, zs, es, ()), v', cuts, y, now, ()) ∧ Turns v v') (by
      intro k x b hx ⟨q1, q2⟩
      left
      have hk := lt_of_get hx
      have hb : b[k]? = some x := by rw [q2 k (Nat.le_refl _), hx]
      have hbk : k < b.length := by rw [q1.1]; exact hk
      have hin := inb (k := (k : Int)) (n := b.length) (by omega) (by omega)
      have hw := wrap_succ hk (show v.length ≤ Big by simp only [Big]; omega)
      simp only [gcu_16378F, gcu_16378r, show decide ((k : Int) < (v.length : Int)) = true by rw [decide_eq_true_eq]; omega, cond_true, hin, Int.toNat_natCast, hb, Option.bind_some, hw, List.length_set, get_set hbk, set_set_same]
      by_cases h0 : x = 0
      · subst h0
        have put : ∀ u, (u = -1 ∨ u = 1) → Turns v (b.set k u) ∧ ∀ j, k + 1 ≤ j → (b.set k u)[j]? = v[j]? := by
          intro u hu
          refine ⟨⟨by simp [q1.1], fun j w hw => ?_⟩, fun j hj => ?_⟩
          · by_cases hkj : k = j
            · subst hkj
              rw [hx] at hw; cases hw
              exact ⟨u, get_set hbk u, .inr ⟨rfl, hu⟩⟩
            · rw [List.getElem?_set, if_neg hkj]
              exact q1.2 j w hw
          · rw [List.getElem?_set, if_neg (by omega)]
            exact q2 j (by omega)
        have hs : (!decide ((IntKind.wrap .u64 (Int.tmod (k : Int) 64)) < 0)) = true := by
          have h1 := Int.tmod_nonneg 64 (show 0 ≤ (k : Int) by omega)
          have h2 := Int.tmod_lt_of_pos (k : Int) (show 0 < (64 : Int) by omega)
          rw [wrapU64 h1 (by omega), Bool.not_eq_true', decide_eq_false_iff_not]; omega
        rw [hs, show ((0 : Int) == 0) = true from rfl]
        simp only [cond_true]
        generalize ((IntKind.wrap .u64 (BitVec.ofInt (IntKind.bits .u64) (Int.fdiv turn (2 ^ (min (IntKind.wrap .u64 (Int.tmod (k : Int) 64)).toNat 64))) &&& BitVec.ofInt (IntKind.bits .u64) 1).toNat) == 1) = bit
        cases bit
        · exact ⟨b.set k (-1), rfl, put (-1) (.inl rfl)⟩
        · exact ⟨b.set k 1, rfl, put 1 (.inr rfl)⟩
      · rw [show (x == 0) = false by simpa using h0]
        exact ⟨b, rfl, q1, fun j hj => q2 j (by omega)⟩)
    (by
      intro b ⟨q1, q2⟩
      exact ⟨((ps, rs, fs, ds, ss, ks, zs, es, ()), b, cuts, y, now, ()), by simp only [gcu_16378F, gcu_16378r, show decide ((v.length : Int) < (v.length : Int)) = false by simp, cond_false], b, rfl, q1⟩) v ⟨⟨rfl, fun j x hx => ⟨x, hx, .inl rfl⟩⟩, fun _ _ => rfl⟩
  exact ⟨v', by rw [← e, ← hz]; rfl, g⟩
theorem safe_all (v v' : List Int) (hv : Turns v v') (us : List CutT) (hu : us.length = zs.length) (t : Int) (hz : zs.length ≤ 1000) :
    gcu_32762 ps rs fs ds ss ks zs es v' us (outS v t zs us) (nowS v zs us zs.length) zs.length 0 = some (.inr ()) := by
  have hnl : (nowS v zs us zs.length).length ≤ Big := by have := nowS_len v zs us zs.length; simp only [Big]; omega
  have hol : (outS v t zs us).length = zs.length := by unfold outS; rw [List.length_zipWith]; omega
  obtain ⟨r, hr, e⟩ := loopL_inv (f := gcu_32762F) zs
    (fun k (_ : Unit) => ((ps, rs, fs, ds, ss, ks, zs, es, ()), v', us, outS v t zs us, nowS v zs us zs.length, (), (zs.length : Int), (k : Int), ())) (fun _ _ => True) (fun r => r = .inr ()) (by
      intro k z _ hzk _
      left
      have hk := lt_of_get hzk
      obtain ⟨c, hc⟩ := get_of_lt (l := us) (k := k) (by omega)
      have ho : (outS v t zs us)[k]? = some (newCut v t z c) := by unfold outS; rw [List.getElem?_zipWith, hzk, hc]
      have hm : decide ((k : Int) ∈ nowS v zs us zs.length) = fired v z c := by
        rw [Bool.eq_iff_iff, decide_eq_true_eq, mem_now hk]
        unfold firedAt; rw [hzk, hc]
      refine ⟨(), ?_, trivial⟩
      simp only [gcu_32762F, gcu_32762r, show decide ((k : Int) < (zs.length : Int)) = true by rw [decide_eq_true_eq]; omega, cond_true, inb (k := (k : Int)) (n := zs.length) (by omega) (by omega), inb (k := (k : Int)) (n := (outS v t zs us).length) (by omega) (by omega), inb (k := (k : Int)) (n := us.length) (by omega) (by omega),
        Int.toNat_natCast, hzk, hc, ho, Option.bind_some, refEval_eq, has_list _ _ hnl, hm, cond_some, cond_or, cond_and, wrap_succ hk (show zs.length ≤ Big by simp only [Big]; omega)]
      have h1 := eval_turns z.1 hv
      have hbad : ((!(newCut v t z c).1 && evalS z.1 v' != -1) || (c.1 && !(newCut v t z c).1)) = false ∧ (!(fired v z c == ((newCut v t z c).1 && !c.1))) = false := by
        unfold newCut fired
        by_cases he : evalS z.1 v = -1
        · have h2 : evalS z.1 v' = -1 := by omega
          rw [if_pos he, show (evalS z.1 v != -1) = false by simpa using he, show (evalS z.1 v' != -1) = false by simpa using h2]
          split <;> cases c.1 <;> simp
        · rw [if_neg he, show (evalS z.1 v != -1) = true by simpa using he]
          cases c.1 <;> simp
      rw [show decide (0 ≤ (k : Int)) = true by rw [decide_eq_true_eq]; omega]
      simp only [Bool.true_and, cond_true]
      rw [hbad.1, hbad.2]
      rfl)
    (by
      intro _ _
      exact ⟨.inr (), by simp only [gcu_32762F, gcu_32762r, show decide ((zs.length : Int) < (zs.length : Int)) = false by simp, cond_false], rfl⟩) () trivial
  rw [← e]; exact hr
end
theorem cutoffSafe_ok (codes : List Int) (time turn : Int) (h : ∀ x ∈ codes, 0 ≤ x ∧ x ≤ 255) (h1 : 0 ≤ time) (h2 : time ≤ 255) (h3 : 0 ≤ turn) (h4 : turn ≤ 18446744073709551615) :
    gcu codes time turn = some (true, ()) := by
  unfold gcu
  obtain ⟨l, e0, c0⟩ := new_ok h
  obtain ⟨ps, rs, fs, ds, ss, ks, zs, tf, td, tf', td', pr, fl, j1, e1, c1, S, _, _⟩ := site_ok c0
  have hk := S.cl
  have hz := S.zl
  have hs := S.sl
  have hnr := S.made.nr
  have hfl := S.made.flen
  obtain ⟨ms, j2, e2, c2, m1, m2⟩ := said_ok (ps := ps) (rs := rs) (fs := fs) (ds := ds) (ks := ks) (zs := zs) (es := [1, 2, 1, 3]) c1 (by omega) (fun k s hks => ⟨(S.sen k s hks).1, (S.sen k s hks).2.1⟩)
  obtain ⟨ws, j3, e3, c3, w1, w2⟩ := watched_ok (ps := ps) (rs := rs) (fs := fs) (ds := ds) (ss := ss) (zs := zs) (es := [1, 2, 1, 3]) c2 (show ks.length ≤ 100 by omega)
  obtain ⟨us, j4, e4, c4, u1, u2⟩ := spans_ok c3 fl (by omega) S.made.fr
  have hV := S.values m2 m1 w1 w2 (show us.length = rs.length by omega) (t := 20 + time) (by omega) (by omega)
  generalize hv : List.zipWith (fun c w => (oneS ss ms us (20 + time) c w).1) ks ws = v at hV
  have hvl : v.length = ks.length := by rw [← hv, List.length_zipWith]; omega
  generalize List.zipWith (fun c w => (oneS ss ms us (20 + time) c w).2.1) ks ws = wv at hV
  obtain ⟨cu, e5, q5⟩ := safe_cuts (ps := ps) (rs := rs) (fs := fs) (ds := ds) (ss := ss) (ks := ks) (zs := zs) (es := [1, 2, 1, 3]) c4 turn (20 + time) 0 v zs.length (by omega)
  have hc : cutsS 0 ks.length zs v cu (20 + time) = (outS v (20 + time) zs cu, nowS v zs cu zs.length, 0, ()) := by
    unfold cutsS
    rw [show ((v.length : Int) != (ks.length : Int) || (cu.length : Int) != (zs.length : Int)) = false by simp only [Bool.or_eq_false_iff, bne_eq_false_iff_eq]; omega,
      show (decide (20 + time < 0) || decide (20 + time > 2147483648)) = false by simp only [Bool.or_eq_false_iff, decide_eq_false_iff_not]; omega]
    rfl
  have hol : (outS v (20 + time) zs cu).length = cu.length := by unfold outS; rw [List.length_zipWith]; omega
  obtain ⟨v', e6, T⟩ := safe_turns (ps := ps) (rs := rs) (fs := fs) (ds := ds) (ss := ss) (ks := ks) (zs := zs) (es := [1, 2, 1, 3]) turn v cu (outS v (20 + time) zs cu) (nowS v zs cu zs.length) (by omega)
  have hm : (decide (0 ≤ (zs.length : Int)) && (decide ((zs.length : Int) ≤ (zs.length : Int)) && decide ((zs.length : Int) * ((24 : Nat) : Int) ≤ ((140737488355328 : Nat) : Int)))) = true := by
    simp only [Bool.and_eq_true, decide_eq_true_eq]; omega
  rw [e0]
  simp only [Option.bind_some]
  rw [e1]
  simp only [Option.bind_some]
  rw [e2]
  simp only [Option.bind_some]
  rw [e3]
  simp only [Option.bind_some]
  rw [e4]
  simp only [Option.bind_some]
  rw [wrap64 (n := time) (by omega) (by omega), wrap64 (n := 20 + time) (by omega) (by omega), hV]
  simp only [Option.bind_some]
  rw [hm]
  simp only [cond_true, Int.toNat_natCast, List.length_replicate]
  rw [e5]
  simp only [Option.bind_some]
  rw [cuts_eq S.big v cu (20 + time) (by unfold Big; omega), S.check, hc]
  simp only [Option.bind_some, cond_some, cond_or, bne_self_eq_false, Bool.false_or, hol, hvl, cond_false]
  rw [← hvl, e6]
  simp only [Option.bind_some]
  rw [safe_all v v' T cu q5 (20 + time) (by omega)]
  simp only [Option.bind_some, sumElim_inr, awake_ok]
end Go.V

