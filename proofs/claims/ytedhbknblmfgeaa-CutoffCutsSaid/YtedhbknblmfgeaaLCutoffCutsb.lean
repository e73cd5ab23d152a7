/-
  Plain Lean: what the functions of CutoffCuts make of all inputs, part 2.
-/
import Derived.Test.YtedhbknblmfgeaaLCutoffCutsa
set_option linter.all false
namespace Go.V
open Go
abbrev MeasT : Type := Int × Int × Int × Int
abbrev WatchT : Type := Bool × Int × Int
def nothing : Int × Int := (-1125899906842624, 1125899906842624)
def plainK (k : Int) : Bool := k == 4 || (k == 5 || k == 6)
def moreS (s : SensorT) (dt : Int) : Int := Int.tdiv (s.2.2.2.2.2.2.1 * dt + 999) 1000
def atS (s : SensorT) (m : MeasT) (t : Int) : Int × Int :=
 bif eSensor s != 0 || (decide (m.1 < 0) || ((m.2.2.1 == -1125899906842624 && m.2.2.2 == 1125899906842624) || (decide (t < m.2.1) || decide (t - m.2.1 > s.2.2.2.2.2.2.2)))) then nothing
 else bif plainK s.2.1 then m.2.2
 else bif s.2.1 == 1 || s.2.1 == 2 then (max (m.2.2.1 - moreS s (t - m.2.1)) 0, max (m.2.2.2 + moreS s (t - m.2.1)) 0)
 else (m.2.2.1 - moreS s (t - m.2.1), m.2.2.2 + moreS s (t - m.2.1))
def knownS (ss : List SensorT) (ms : List MeasT) (n t : Int) : Int × Int :=
 bif !has n ss.length || (decide (n ≥ (ms.length : Int)) || match ms[n.toNat]? with | some m => m.1 != n | none => true) then nothing
 else match ss[n.toNat]?, ms[n.toNat]? with | some s, some m => atS s m t | _, _ => nothing
def aboveS (k : Int × Int) (v : Int) : Int := bif decide (k.1 > k.2) then 0 else bif decide (k.1 ≥ v) then 1 else bif decide (k.2 < v) then -1 else 0
def stoppedS (k : Int × Int) : Int := bif decide (k.1 > k.2) then 0 else bif k.1 == 1 && k.2 == 1 then -1 else bif decide (k.1 > 1) || decide (k.2 < 1) then 1 else 0
def fedS (k : Int × Int) (need : Int) : Int :=
 bif decide (k.1 > k.2) then 0 else bif decide (need ≤ 0) || (decide (k.1 ≥ need) || decide (k.2 ≤ -need)) then 1 else bif decide (k.1 > -need) && decide (k.2 < need) then -1 else 0
def fedAt (flows : List (Int × Int)) (r need : Int) : Int := bif has r flows.length then (match flows[r.toNat]? with | some k => fedS k need | none => 0) else 0
def stepS (cut clear delay : Int) (w : WatchT) (k : Int × Int) (t : Int) : WatchT × Int :=
 bif eLevel cut clear delay != 0 then ((false, 0, 0), eLevel cut clear delay)
 else bif decide (t < 0) || (decide (t > 2147483648) || decide (t < w.2.2)) then ((false, 0, 0), 8)
 else bif decide (w.2.2 < 0) || (decide (w.2.2 > 2147483648) || (decide (w.2.1 < -1) || (decide (w.2.1 > w.2.2) || (w.2.1 != -1 && !w.1)))) then ((false, 0, 0), 10)
 else bif aboveS k cut != -1 then ((true, -1, t), 0)
 else bif !w.1 then ((w.1, w.2.1, t), 0)
 else bif decide (k.2 > clear) then ((w.1, -1, t), 0)
 else bif decide (t - (bif decide (w.2.1 < 0) then t else w.2.1) ≥ delay) then ((false, -1, t), 0) else ((w.1, (bif decide (w.2.1 < 0) then t else w.2.1), t), 0)
def overS (cut : Int) (o : Bool) (k : Int × Int) : Int := bif !o then -1 else bif aboveS k cut == 1 then 1 else 0
def oneS (ss : List SensorT) (ms : List MeasT) (flows : List (Int × Int)) (t : Int) (c : CondT) (w : WatchT) : Int × WatchT × Int :=
 let k := knownS ss ms c.2.1 t
 bif c.1 == 1 then
  (bif (stepS c.2.2.2.1 c.2.2.2.2.1 c.2.2.2.2.2 w k t).2 != 0 then (0, w, (stepS c.2.2.2.1 c.2.2.2.2.1 c.2.2.2.2.2 w k t).2)
   else (overS c.2.2.2.1 (stepS c.2.2.2.1 c.2.2.2.2.1 c.2.2.2.2.2 w k t).1.1 k, (stepS c.2.2.2.1 c.2.2.2.2.1 c.2.2.2.2.2 w k t).1, 0))
 else bif c.1 == 2 then (-aboveS k c.2.2.1, w, 0)
 else bif c.1 == 3 then (stoppedS k, w, 0)
 else bif c.1 == 4 then (bif k.1 == -1125899906842624 && k.2 == 1125899906842624 then 1 else -1, w, 0)
 else bif c.1 == 5 then (-fedAt flows c.2.1 c.2.2.1, w, 0)
 else (0, w, 0)
def errAt (one : CondT → WatchT → Int × WatchT × Int) (ws : List WatchT) (i : Nat) (c : CondT) : Int := match ws[i]? with | some w => (one c w).2.2 | none => 0
def valsS (one : CondT → WatchT → Int × WatchT × Int) (cs : List CondT) (ws : List WatchT) : List Int × List WatchT × Int :=
 bif errL (errAt one ws) cs 0 != 0 then ([], [], errL (errAt one ws) cs 0)
 else (List.zipWith (fun c w => (one c w).1) cs ws, List.zipWith (fun c w => (one c w).2.1) cs ws, 0)
theorem errL_first {α : Type} {err : Nat → α → Int} {xs : List α} {i : Nat} {x : α} (hx : xs[i]? = some x) (h : ∀ (j : Nat) (y : α), j < i → xs[j]? = some y → err j y = 0) (he : err i x ≠ 0) : errL err xs 0 = err i x := by
 have key : ∀ (xs : List α) (i k : Nat), xs[i]? = some x → (∀ (j : Nat) (y : α), j < i → xs[j]? = some y → err (k + j) y = 0) → err (k + i) x ≠ 0 → errL err xs k = err (k + i) x := by
  intro xs
  induction xs with
  | nil => intro i k h; simp at h
  | cons a xs ih =>
   intro i k h1 h2 h3
   unfold errL
   cases i with
   | zero =>
    simp at h1; subst h1
    rw [show (err k a != 0) = true by simpa using h3]; rfl
   | succ i =>
    have := h2 0 a (by omega) rfl
    rw [show (err k a != 0) = false by simpa using this, cond_false]
    rw [ih i (k + 1) (by simpa using h1) (fun j y hj hy => by rw [show k + 1 + j = k + (j + 1) by omega]; exact h2 (j + 1) y (by omega) (by simpa using hy)) (by rw [show k + 1 + i = k + (i + 1) by omega]; exact h3)]
    rw [show k + 1 + i = k + (i + 1) by omega]
 have := key xs i 0 hx (fun j y hj hy => by rw [Nat.zero_add]; exact h j y hj hy) (by rw [Nat.zero_add]; exact he)
 rwa [Nat.zero_add] at this
theorem plain_eq (k : Int) : gav k = some (plainK k, ()) := by
 simp [gav, plainK, cond_some, cond_or, Bool.or_assoc]
theorem above_eq (a b v : Int) : gay a b v = some (aboveS (a, b) v, ()) := by
 unfold gay aboveS
 simp only [cond_some, cond_pair]
theorem stopped_eq (a b : Int) : gbb a b = some (stoppedS (a, b), ()) := by
 unfold gbb stoppedS
 simp only [cond_some, cond_or, cond_and, Option.bind_some, cond_pair]
theorem fed_eq (a b need : Int) (h1 : -4611686018427387904 ≤ need) (h2 : need ≤ 4611686018427387904) : gbc a b need = some (fedS (a, b) need, ()) := by
 unfold gbc fedS
 rw [wrap64 (n := 0 - need) (by omega) (by omega), show (0 - need) = -need by omega]
 simp only [cond_some, cond_or, cond_and, Option.bind_some, cond_pair, Bool.or_assoc]
theorem Fed_eq (flows : List (Int × Int)) (r need : Int) (h1 : -4611686018427387904 ≤ need) (h2 : need ≤ 4611686018427387904) : gbd flows [(r, need)] = some ([fedAt flows r need], ()) := by
 unfold gbd
 rw [show (decide (0 ≤ ((([(r, need)] : List (Int × Int)).length : Nat) : Int)) && (decide (((([(r, need)] : List (Int × Int)).length : Nat) : Int) ≤ ((([(r, need)] : List (Int × Int)).length : Nat) : Int)) && decide (((([(r, need)] : List (Int × Int)).length : Nat) : Int) * ((8 : Nat) : Int) ≤ ((140737488355328 : Nat) : Int)))) = true by simp]
 simp only [cond_true]
 have key : gbd_58 flows (List.replicate ((([(r, need)] : List (Int × Int)).length : Nat) : Int).toNat 0) [(r, need)] ((([(r, need)] : List (Int × Int)).length : Nat) : Int) 0 = some ([fedAt flows r need], ()) := by
  unfold gbd_58
  rw [loopL_step]
  simp only [gbd_58F, gbd_58r]
  rw [show decide ((0 : Int) < ((([(r, need)] : List (Int × Int)).length : Nat) : Int)) = true from rfl, show idx [(r, need)] 0 = some (r, need) from rfl]
  simp only [cond_true, Option.bind_some, cond_some, cond_and]
  rw [show (decide (r ≥ 0) && decide (r < (flows.length : Int))) = has r flows.length from rfl, show IntKind.wrap .i64 (0 + 1) = 1 from rfl]
  unfold fedAt
  cases hh : has r flows.length
  ·simp only [cond_false, Option.bind_some]
   rw [loopL_step]
   rfl
  ·obtain ⟨k, e1, e2⟩ := has_idx hh
   simp only [cond_true, e2, e1, Option.bind_some, fed_eq _ _ _ h1 h2]
   rw [show (decide (0 ≤ (0 : Int)) && decide ((0 : Int) < (((List.replicate ((([(r, need)] : List (Int × Int)).length : Nat) : Int).toNat (0 : Int)).length : Nat) : Int))) = true from rfl]
   simp only [cond_true]
   rw [show ((List.replicate ((([(r, need)] : List (Int × Int)).length : Nat) : Int).toNat (0 : Int))[(0 : Int).toNat]?) = some 0 from rfl]
   simp only [Option.bind_some]
   rw [loopL_step]
   rfl
 rw [key]; rfl
theorem step_eq (cut clear delay : Int) (o : Bool) (s la lo hi t : Int) : gaz cut clear delay o s la lo hi t =
  some ((((stepS cut clear delay (o, s, la) (lo, hi) t).1.1, (stepS cut clear delay (o, s, la) (lo, hi) t).1.2.1, (stepS cut clear delay (o, s, la) (lo, hi) t).1.2.2, ()), (stepS cut clear delay (o, s, la) (lo, hi) t).2, ()), ()) := by
 unfold gaz stepS
 simp only [levelCheck_eq, Option.bind_some, cond_some, cond_or, cond_and, Bool.or_assoc, above_eq, gaz_32383]
 cases eLevel cut clear delay != 0 <;> simp only [cond_true, cond_false]
 cases h1 : decide (t < 0) || (decide (t > 2147483648) || decide (t < la)) <;> simp only [cond_true, cond_false]
 cases h2 : decide (la < 0) || (decide (la > 2147483648) || (decide (s < -1) || (decide (s > la) || (s != -1 && !o)))) <;> simp only [cond_true, cond_false]
 simp only [Bool.or_eq_false_iff, decide_eq_false_iff_not] at h1 h2
 cases aboveS (lo, hi) cut != -1 <;> simp only [cond_true, cond_false]
 cases o <;> simp only [Bool.not_true, Bool.not_false, cond_true, cond_false]
 cases decide (hi > clear) <;> simp only [cond_true, cond_false]
 rw [wrap64 (n := t - t) (by omega) (by omega), wrap64 (n := t - s) (by omega) (by omega)]
 cases decide (s < 0) <;> simp only [cond_true, cond_false]
 ·cases decide (t - s ≥ delay) <;> rfl
 ·cases decide (t - t ≥ delay) <;> rfl
theorem over_eq (x0 x1 x2 x3 x4 x5 : Int) (o : Bool) (x7 x8 lo hi : Int) : gba x0 x1 x2 x3 x4 x5 o x7 x8 lo hi = some (overS x3 o (lo, hi), ()) := by
 unfold gba overS
 simp only [above_eq, Option.bind_some, cond_some, cond_pair]
def MeasOk (m : MeasT) : Prop := 0 ≤ m.2.1 ∧ m.2.1 ≤ 2147483648 ∧ -1152921504606846976 ≤ m.2.2.1 ∧ m.2.2.1 ≤ 1152921504606846976 ∧ -1152921504606846976 ≤ m.2.2.2 ∧ m.2.2.2 ≤ 1152921504606846976
theorem eSensor_drift {s : SensorT} (h : eSensor s = 0) : 0 ≤ s.2.2.2.2.2.2.1 ∧ s.2.2.2.2.2.2.1 ≤ 1000000 := by
 unfold eSensor at h
 cases g : inB 0 1000000 s.2.2.2.2.2.2.1
 ·rw [g] at h
  generalize inB 1 6 s.2.1 = b1 at h
  generalize inB 0 255 s.1 = b2 at h
  generalize decide (s.2.2.1 < 0) = b3 at h
  generalize inB (-1000000) 1000000 s.2.2.2.1 = b4 at h
  generalize inB (-1000000) 1000000 s.2.2.2.2.1 = b5 at h
  generalize inB 0 1000000 s.2.2.2.2.2.1 = b6 at h
  revert h
  cases b1 <;> cases b2 <;> cases b3 <;> cases b4 <;> cases b5 <;> cases b6 <;> simp
 ·unfold inB at g
  simp only [Bool.and_eq_true, decide_eq_true_eq] at g
  exact g
theorem more_range {d dt : Int} (h1 : 0 ≤ d) (h2 : d ≤ 1000000) (h3 : 0 ≤ dt) (h4 : dt ≤ 2147483648) : 0 ≤ d * dt ∧ d * dt ≤ 2147483648000000 ∧ 0 ≤ Int.tdiv (d * dt + 999) 1000 ∧ Int.tdiv (d * dt + 999) 1000 ≤ 2147483648999 := by
 have a := Int.mul_nonneg h1 h3
 have b : d * dt ≤ 1000000 * 2147483648 := Int.mul_le_mul h2 h4 h3 (by omega)
 rw [Int.tdiv_eq_ediv_of_nonneg (by omega)]
 omega
theorem at_eq (s : SensorT) (m : MeasT) (hm : MeasOk m) {t : Int} (h0 : 0 ≤ t) (h1 : t ≤ 2147483648) :
  gaw s.1 s.2.1 s.2.2.1 s.2.2.2.1 s.2.2.2.2.1 s.2.2.2.2.2.1 s.2.2.2.2.2.2.1 s.2.2.2.2.2.2.2 m.1 m.2.1 m.2.2.1 m.2.2.2 t = some (((atS s m t).1, (atS s m t).2, ()), ()) := by
 obtain ⟨m0, m1, m2, m3, m4, m5⟩ := hm
 unfold gaw atS gau
 rw [wrap64 (n := t - m.2.1) (by omega) (by omega)]
 simp only [Option.bind_some, sensorCheck_eq, cond_some, cond_or, Bool.or_assoc, Bool.and_true, plain_eq]
 cases h : (eSensor s != 0 || (decide (m.1 < 0) || (m.2.2.1 == -1125899906842624 && m.2.2.2 == 1125899906842624 || (decide (t < m.2.1) || decide (t - m.2.1 > s.2.2.2.2.2.2.2))))) <;> simp only [cond_true, cond_false]
 ·simp only [Bool.or_eq_false_iff, decide_eq_false_iff_not] at h
  have hd := eSensor_drift (s := s) (by simpa using h.1)
  obtain ⟨a1, a2, a3, a4⟩ := more_range hd.1 hd.2 (show 0 ≤ t - m.2.1 by omega) (by omega)
  have w1 : IntKind.wrap .i64 (s.2.2.2.2.2.2.1 * (t - m.2.1)) = s.2.2.2.2.2.2.1 * (t - m.2.1) := wrap64 (by omega) (by omega)
  have w2 : IntKind.wrap .i64 (s.2.2.2.2.2.2.1 * (t - m.2.1) + 999) = s.2.2.2.2.2.2.1 * (t - m.2.1) + 999 := wrap64 (by omega) (by omega)
  have w3 : IntKind.wrap .i64 (Int.tdiv (s.2.2.2.2.2.2.1 * (t - m.2.1) + 999) 1000) = moreS s (t - m.2.1) := wrap64 (by omega) (by omega)
  have hm : moreS s (t - m.2.1) = Int.tdiv (s.2.2.2.2.2.2.1 * (t - m.2.1) + 999) 1000 := rfl
  rw [w1, w2, w3]
  have w4 : IntKind.wrap .i64 (m.2.2.1 - moreS s (t - m.2.1)) = m.2.2.1 - moreS s (t - m.2.1) := wrap64 (by omega) (by omega)
  have w5 : IntKind.wrap .i64 (m.2.2.2 + moreS s (t - m.2.1)) = m.2.2.2 + moreS s (t - m.2.1) := wrap64 (by omega) (by omega)
  rw [w4, w5]
  simp only [cond_max0]
  cases plainK s.2.1 <;> simp only [cond_true, cond_false]
  cases (s.2.1 == 1 || s.2.1 == 2) <;> rfl
 ·rfl
section
variable {ps : List PlaceT} {rs : List RoadT} {fs : List FanT} {ds : List DoorT} {ss : List SensorT} {cs : List CondT} {zs : List ZoneT} {es : List Int}
theorem known_eq {ms : List MeasT} (hm : ∀ m ∈ ms, MeasOk m) (n : Int) {t : Int} (h0 : 0 ≤ t) (h1 : t ≤ 2147483648) :
  gax ps rs fs ds ss cs zs es ms n t = some (((knownS ss ms n t).1, (knownS ss ms n t).2, ()), ()) := by
 unfold gax knownS gau
 simp only [has_eq, Option.bind_some, cond_some]
 cases hh : has n ss.length
 ·rfl
 ·obtain ⟨s, e1, e2⟩ := has_idx hh
  have hn : 0 ≤ n := by unfold has at hh; simp only [Bool.and_eq_true, decide_eq_true_eq] at hh; exact hh.1
  simp only [Bool.not_true, cond_false, Option.bind_some, Bool.false_or, e1, e2]
  by_cases hl : n ≥ (ms.length : Int)
  ·rw [show decide (n ≥ (ms.length : Int)) = true by simpa using hl]; rfl
  ·obtain ⟨m, hm1⟩ := get_of_lt (l := ms) (k := n.toNat) (by omega)
   rw [show decide (n ≥ (ms.length : Int)) = false by simpa using hl]
   simp only [cond_false, Bool.false_or, idx_int hn hm1, hm1, Option.bind_some, at_eq s m (hm m (List.mem_of_getElem? hm1)) h0 h1]
   cases m.1 != n <;> rfl
theorem values_loop {ms : List MeasT} (hm : ∀ m ∈ ms, MeasOk m) {ws : List WatchT} (hw : ws.length = cs.length) (hc : cs.length ≤ 1000) (hcs : ∀ c ∈ cs, 0 ≤ c.2.2.1 ∧ c.2.2.1 ≤ 1099511627776) (flows : List (Int × Int)) {t : Int} (h0 : 0 ≤ t) (h1 : t ≤ 2147483648) :
  gbe_506 ms ws flows t ps rs fs ds ss cs zs es (List.replicate cs.length 0) ws cs cs.length 0 =
   some (bif errL (errAt (oneS ss ms flows t) ws) cs 0 != 0 then .inl ([], [], errL (errAt (oneS ss ms flows t) ws) cs 0, ())
    else .inr (List.zipWith (fun c w => (oneS ss ms flows t c w).1) cs ws, List.zipWith (fun c w => (oneS ss ms flows t c w).2.1) cs ws, ())) := by
 generalize hone : oneS ss ms flows t = one
 obtain ⟨r, hr, hq⟩ := loopL_inv (f := gbe_506F) cs
  (fun i (b : List Int × List WatchT) => (ms, ws, flows, t, (ps, rs, fs, ds, ss, cs, zs, es, ()), b.1, b.2, cs, (cs.length : Int), (i : Int), ()))
  (fun i b => b.1.length = cs.length ∧ b.2.length = cs.length ∧ (∀ (j : Nat) (c : CondT) (w : WatchT), j < i → cs[j]? = some c → ws[j]? = some w → b.1[j]? = some (one c w).1 ∧ b.2[j]? = some (one c w).2.1 ∧ (one c w).2.2 = 0) ∧
   ∀ j, i ≤ j → j < cs.length → b.1[j]? = some 0 ∧ b.2[j]? = ws[j]?)
  (fun r => r = (bif errL (errAt one ws) cs 0 != 0 then .inl ([], [], errL (errAt one ws) cs 0, ()) else .inr (List.zipWith (fun c w => (one c w).1) cs ws, List.zipWith (fun c w => (one c w).2.1) cs ws, ()))) (by
   intro i c b hci ⟨q1, q2, q3, q4⟩
   have hi := lt_of_get hci
   obtain ⟨w, hwi⟩ := get_of_lt (l := ws) (k := i) (by omega)
   obtain ⟨hb1, hb2⟩ := q4 i (Nat.le_refl _) hi
   rw [hwi] at hb2
   have hin1 : (decide (0 ≤ (i : Int)) && decide ((i : Int) < (b.1.length : Int))) = true := inb (by omega) (by omega)
   have hin2 : (decide (0 ≤ (i : Int)) && decide ((i : Int) < (b.2.length : Int))) = true := inb (by omega) (by omega)
   have hcv := hcs c (List.mem_of_getElem? hci)
   have put : ∀ (v : Int) (w' : WatchT), (one c w).1 = v → (one c w).2.1 = w' → (one c w).2.2 = 0 →
     ((b.1.set i v).length = cs.length ∧ (b.2.set i w').length = cs.length ∧ (∀ (j : Nat) (c : CondT) (w : WatchT), j < i + 1 → cs[j]? = some c → ws[j]? = some w → (b.1.set i v)[j]? = some (one c w).1 ∧ (b.2.set i w')[j]? = some (one c w).2.1 ∧ (one c w).2.2 = 0) ∧
      ∀ j, i + 1 ≤ j → j < cs.length → (b.1.set i v)[j]? = some 0 ∧ (b.2.set i w')[j]? = ws[j]?) := by
    intro v w' e1 e2 e3
    refine ⟨by simp [q1], by simp [q2], fun j c' w'' hj hc' hw'' => ?_, fun j hj hj2 => ?_⟩
    ·by_cases hij : i = j
     ·subst hij
      rw [hci] at hc'; rw [hwi] at hw''
      cases hc'; cases hw''
      rw [get_set (by omega), get_set (by omega), e1, e2]
      exact ⟨rfl, rfl, e3⟩
     ·rw [List.getElem?_set, List.getElem?_set, if_neg hij, if_neg hij]
      exact q3 j c' w'' (by omega) hc' hw''
    ·rw [List.getElem?_set, List.getElem?_set, if_neg (by omega), if_neg (by omega)]
     exact q4 j (by omega) hj2
   have keep : ∀ v : Int, (one c w).1 = v → (one c w).2.1 = w → (one c w).2.2 = 0 →
     ((b.1.set i v).length = cs.length ∧ b.2.length = cs.length ∧ (∀ (j : Nat) (c : CondT) (w : WatchT), j < i + 1 → cs[j]? = some c → ws[j]? = some w → (b.1.set i v)[j]? = some (one c w).1 ∧ b.2[j]? = some (one c w).2.1 ∧ (one c w).2.2 = 0) ∧
      ∀ j, i + 1 ≤ j → j < cs.length → (b.1.set i v)[j]? = some 0 ∧ b.2[j]? = ws[j]?) := by
    intro v e1 e2 e3
    have := put v w e1 e2 e3
    rwa [set_self hb2] at this
   have hk := known_eq (ps := ps) (rs := rs) (fs := fs) (ds := ds) (ss := ss) (cs := cs) (zs := zs) (es := es) hm c.2.1 h0 h1
   have hov : ∀ k v, -1 ≤ aboveS k v ∧ aboveS k v ≤ 1 := by
    intro k v
    unfold aboveS
    cases decide (k.1 > k.2) <;> cases decide (k.1 ≥ v) <;> cases decide (k.2 < v) <;> simp
   simp only [gbe_506F, gbe_506r, show decide ((i : Int) < (cs.length : Int)) = true by rw [decide_eq_true_eq]; omega, cond_true, idx_get hci, Option.bind_some, hk, wrap_succ hi (show cs.length ≤ Big by simp [Big]; omega)]
   have hone' : one c w = oneS ss ms flows t c w := by rw [hone]
   unfold oneS at hone'
   simp only at hone'
   generalize knownS ss ms c.2.1 t = k at hone'
   by_cases k1 : c.1 = 1
   ·rw [show (c.1 == 1) = true by simpa using k1] at hone' ⊢
    simp only [cond_true, idx_get hwi, Option.bind_some, step_eq, over_eq] at hone' ⊢
    cases he : (stepS c.2.2.2.1 c.2.2.2.2.1 c.2.2.2.2.2 w k t).2 != 0
    ·left
     rw [he] at hone'
     simp only [cond_false] at hone' ⊢
     simp only [hin1, hin2, cond_true, Int.toNat_natCast, hb1, hb2, Option.bind_some]
     exact ⟨(b.1.set i (overS c.2.2.2.1 (stepS c.2.2.2.1 c.2.2.2.2.1 c.2.2.2.2.2 w k t).1.1 k), b.2.set i (stepS c.2.2.2.1 c.2.2.2.2.1 c.2.2.2.2.2 w k t).1), rfl, put _ _ (by rw [hone']) (by rw [hone']) (by rw [hone'])⟩
    ·right
     rw [he] at hone'
     simp only [cond_true] at hone' ⊢
     refine ⟨_, rfl, ?_⟩
     have hne : (stepS c.2.2.2.1 c.2.2.2.2.1 c.2.2.2.2.2 w k t).2 ≠ 0 := by simpa using he
     have hea : errAt one ws i c = (stepS c.2.2.2.1 c.2.2.2.2.1 c.2.2.2.2.2 w k t).2 := by
      unfold errAt; rw [hwi]; simp only [hone']
     have := errL_first (err := errAt one ws) hci (fun j y hj hy => by
      obtain ⟨w', hw'⟩ := get_of_lt (l := ws) (k := j) (by have := lt_of_get hy; omega)
      unfold errAt; rw [hw']; exact (q3 j y w' hj hy hw').2.2) (by rw [hea]; exact hne)
     rw [this, hea, he]; rfl
   ·left
    rw [show (c.1 == 1) = false by simpa using k1] at hone' ⊢
    simp only [cond_false] at hone' ⊢
    by_cases k2 : c.1 = 2
    ·rw [show (c.1 == 2) = true by simpa using k2] at hone' ⊢
     have := hov k c.2.2.1
     simp only [cond_true, above_eq, Option.bind_some, hin1, Int.toNat_natCast, hb1] at hone' ⊢
     rw [wrap64 (n := 0 - aboveS (k.1, k.2) c.2.2.1) (by show _ ≤ 0 - aboveS k c.2.2.1; omega) (by show 0 - aboveS k c.2.2.1 ≤ _; omega)]
     exact ⟨(b.1.set i (0 - aboveS k c.2.2.1), b.2), rfl, keep _ (by rw [hone']; omega) (by rw [hone']) (by rw [hone'])⟩
    ·rw [show (c.1 == 2) = false by simpa using k2] at hone' ⊢
     simp only [cond_false] at hone' ⊢
     by_cases k3 : c.1 = 3
     ·rw [show (c.1 == 3) = true by simpa using k3] at hone' ⊢
      simp only [cond_true, stopped_eq, Option.bind_some, hin1, Int.toNat_natCast, hb1] at hone' ⊢
      exact ⟨(b.1.set i (stoppedS k), b.2), rfl, keep _ (by rw [hone']) (by rw [hone']) (by rw [hone'])⟩
     ·rw [show (c.1 == 3) = false by simpa using k3] at hone' ⊢
      simp only [cond_false] at hone' ⊢
      by_cases k4 : c.1 = 4
      ·rw [show (c.1 == 4) = true by simpa using k4] at hone' ⊢
       have hin3 : (decide (0 ≤ (i : Int)) && decide ((i : Int) < (((b.1.set i (-1)).length : Nat) : Int))) = true := inb (by omega) (by rw [List.length_set]; omega)
       simp only [cond_true, gau, Option.bind_some, hin1, hin3, Int.toNat_natCast, hb1, Bool.and_true, get_set (show i < b.1.length by omega), set_set_same] at hone' ⊢
       cases hn : (k.1 == -1125899906842624 && k.2 == 1125899906842624)
       ·rw [hn] at hone'
        exact ⟨(b.1.set i (-1), b.2), rfl, keep _ (by rw [hone']; rfl) (by rw [hone']) (by rw [hone'])⟩
       ·rw [hn] at hone'
        exact ⟨(b.1.set i 1, b.2), rfl, keep _ (by rw [hone']; rfl) (by rw [hone']) (by rw [hone'])⟩
      ·rw [show (c.1 == 4) = false by simpa using k4] at hone' ⊢
       simp only [cond_false] at hone' ⊢
       by_cases k5 : c.1 = 5
       ·rw [show (c.1 == 5) = true by simpa using k5] at hone' ⊢
        simp only [cond_true, Fed_eq flows c.2.1 c.2.2.1 (by omega) (by omega), Option.bind_some, hin1, Int.toNat_natCast, hb1] at hone' ⊢
        have hf : -1 ≤ fedAt flows c.2.1 c.2.2.1 ∧ fedAt flows c.2.1 c.2.2.1 ≤ 1 := by
         have : ∀ k n, -1 ≤ fedS k n ∧ fedS k n ≤ 1 := by
          intro k n
          unfold fedS
          cases decide (k.1 > k.2) <;> cases decide (n ≤ 0) || (decide (k.1 ≥ n) || decide (k.2 ≤ -n)) <;> cases decide (k.1 > -n) && decide (k.2 < n) <;> simp
         unfold fedAt
         cases has c.2.1 flows.length
         ·simp
         ·simp only [cond_true]
          split
          ·exact this _ _
          ·simp
        rw [show (decide ((0 : Nat) ≤ 0) && decide ((0 : Int) < ((([fedAt flows c.2.1 c.2.2.1] : List Int).length : Nat) : Int))) = true from rfl, show ([fedAt flows c.2.1 c.2.2.1] : List Int)[0]? = some (fedAt flows c.2.1 c.2.2.1) from rfl]
        simp only [cond_true, Option.bind_some]
        rw [wrap64 (n := 0 - fedAt flows c.2.1 c.2.2.1) (by omega) (by omega)]
        exact ⟨(b.1.set i (0 - fedAt flows c.2.1 c.2.2.1), b.2), rfl, keep _ (by rw [hone']; omega) (by rw [hone']) (by rw [hone'])⟩
       ·rw [show (c.1 == 5) = false by simpa using k5] at hone' ⊢
        simp only [cond_false] at hone' ⊢
        have := keep 0 (by rw [hone']) (by rw [hone']) (by rw [hone'])
        rw [set_self hb1] at this
        exact ⟨b, rfl, this⟩)
  (by
   intro b ⟨q1, q2, q3, q4⟩
   refine ⟨.inr (b.1, b.2, ()), by simp only [gbe_506F, gbe_506r, show decide ((cs.length : Int) < (cs.length : Int)) = false by simp, cond_false], ?_⟩
   have he : errL (errAt one ws) cs 0 = 0 := by
    rw [errL_zero]
    intro j c hc'
    obtain ⟨w, hw'⟩ := get_of_lt (l := ws) (k := j) (by have := lt_of_get hc'; omega)
    rw [Nat.zero_add]
    unfold errAt; rw [hw']; exact (q3 j c w (lt_of_get hc') hc' hw').2.2
   rw [he]
   have l1 : b.1 = List.zipWith (fun c w => (one c w).1) cs ws := by
    refine List.ext_getElem? fun j => ?_
    rw [List.getElem?_zipWith]
    by_cases hj : j < cs.length
    ·obtain ⟨c, hc'⟩ := get_of_lt (l := cs) hj
     obtain ⟨w, hw'⟩ := get_of_lt (l := ws) (k := j) (by omega)
     rw [hc', hw', (q3 j c w hj hc' hw').1]
    ·rw [List.getElem?_eq_none (by omega), List.getElem?_eq_none (l := cs) (by omega)]
   have l2 : b.2 = List.zipWith (fun c w => (one c w).2.1) cs ws := by
    refine List.ext_getElem? fun j => ?_
    rw [List.getElem?_zipWith]
    by_cases hj : j < cs.length
    ·obtain ⟨c, hc'⟩ := get_of_lt (l := cs) hj
     obtain ⟨w, hw'⟩ := get_of_lt (l := ws) (k := j) (by omega)
     rw [hc', hw', (q3 j c w hj hc' hw').2.1]
    ·rw [List.getElem?_eq_none (by omega), List.getElem?_eq_none (l := cs) (by omega)]
   rw [l1, l2]; rfl) (List.replicate cs.length 0, ws) ⟨by simp, hw, fun j _ _ hj => by omega, fun j _ hj => ⟨by simp only [List.getElem?_replicate]; rw [if_pos hj], rfl⟩⟩
 rw [← hq]; exact hr
def valuesS (e : Int) (nr : Nat) (ss : List SensorT) (cs : List CondT) (ms : List MeasT) (ws : List WatchT) (flows : List (Int × Int)) (t : Int) : List Int × List WatchT × Int × Unit :=
 bif e != 0 then ([], [], e, ())
 else bif (ms.length : Int) != (ss.length : Int) || ((ws.length : Int) != (cs.length : Int) || (flows.length : Int) != (nr : Int)) then ([], [], 11, ())
 else bif decide (t < 0) || decide (t > 2147483648) then ([], [], 8, ())
 else ((valsS (oneS ss ms flows t) cs ws).1, (valsS (oneS ss ms flows t) cs ws).2.1, (valsS (oneS ss ms flows t) cs ws).2.2, ())
theorem eSite_conds (h : eSite ps rs fs ds ss cs zs es = 0) : ∀ c ∈ cs, 0 ≤ c.2.2.1 ∧ c.2.2.1 ≤ 1099511627776 := by
 have key : errL (eCond rs.length ss) cs 0 = 0 := by
  unfold eSite at h
  revert h
  generalize eAir ps rs fs ds = a
  generalize errL (eSensorIn rs.length fs.length ds.length ss) ss 0 = b
  generalize errL (eCond rs.length ss) cs 0 = c
  generalize (decide ((ss.length : Int) > 64) || (decide ((cs.length : Int) > 64) || (decide ((zs.length : Int) > 16) || decide ((es.length : Int) > 64)))) = d
  intro h
  by_cases ha : a = 0
  ·cases d
   ·by_cases hb : b = 0
    ·by_cases hc : c = 0
     ·exact hc
     ·rw [ha, hb, show (c != 0) = true by simpa using hc] at h
      simp at h; exact absurd h hc
    ·rw [ha, show (b != 0) = true by simpa using hb] at h
     simp at h; exact absurd h hb
   ·rw [ha] at h; simp at h
  ·rw [show (a != 0) = true by simpa using ha] at h
   simp at h; exact absurd h ha
 rw [errL_zero] at key
 intro c hc
 obtain ⟨i, hi, rfl⟩ := List.getElem_of_mem hc
 have := key i _ (List.getElem?_eq_getElem hi)
 unfold eCond at this
 revert this
 generalize fitCond (rs.length : Int) ss cs[i].1 cs[i].2.1 = f
 intro h
 by_cases hf : f = 0
 ·rw [hf, show ((0 : Int) != 0) = false by decide, cond_false] at h
  by_cases hv : (decide (cs[i].2.2.1 < 0) || decide (cs[i].2.2.1 > 1099511627776)) = true
  ·rw [hv] at h; cases h
  ·simp only [Bool.or_eq_true, decide_eq_true_eq] at hv; omega
 ·rw [show (f != 0) = true by simpa using hf, cond_true] at h; exact absurd h hf
theorem values_eq (B : SiteBig ps rs fs ds ss cs zs es) {ms : List MeasT} (hm : ∀ m ∈ ms, MeasOk m) (ws : List WatchT) (flows : List (Int × Int)) (t : Int) :
  gbe ps rs fs ds ss cs zs es ms ws flows t = some (valuesS (eSite ps rs fs ds ss cs zs es) rs.length ss cs ms ws flows t, ()) := by
 simp only [gbe, siteCheck_eq B, Option.bind_some, valuesS, cond_some, cond_or, Bool.or_assoc]
 cases h0 : eSite ps rs fs ds ss cs zs es != 0 <;> simp only [cond_true, cond_false]
 have hz : eSite ps rs fs ds ss cs zs es = 0 := by simpa using h0
 have hlen := eSite_zones hz
 cases h1 : ((ms.length : Int) != (ss.length : Int) || ((ws.length : Int) != (cs.length : Int) || (flows.length : Int) != (rs.length : Int))) <;> simp only [cond_true, cond_false]
 simp only [Bool.or_eq_false_iff, bne_eq_false_iff_eq] at h1
 cases h2 : decide (t < 0) || decide (t > 2147483648) <;> simp only [cond_true, cond_false]
 simp only [Bool.or_eq_false_iff, decide_eq_false_iff_not] at h2
 have hwl : ws.length = cs.length := by omega
 rw [hwl]
 rw [show (decide (0 ≤ (cs.length : Int)) && (decide ((cs.length : Int) ≤ (cs.length : Int)) && decide ((cs.length : Int) * ((8 : Nat) : Int) ≤ ((140737488355328 : Nat) : Int)))) = true by simp only [Bool.and_eq_true, decide_eq_true_eq]; omega,
  show decide ((0 + cs.length) * 24 ≤ 140737488355328) = true by rw [decide_eq_true_eq]; omega]
 simp only [cond_true, Int.toNat_natCast]
 rw [values_loop hm hwl (by omega) (eSite_conds hz) flows (by omega) (by omega)]
 simp only [Option.bind_some, valsS]
 cases errL (errAt (oneS ss ms flows t) ws) cs 0 != 0 <;> simp only [cond_true, cond_false, sumElim_inl, sumElim_inr]
end
end Go.V

namespace Go.V
open Go
theorem ints_eq (a b : List Int) (ha : a.length ≤ Big) : gbh a b = some (decide (a = b), ()) := by
 unfold gbh
 by_cases hl : a.length = b.length
 ·rw [show (((a.length : Nat) : Int) != ((b.length : Nat) : Int)) = false by rw [bne_eq_false_iff_eq]; omega]
  simp only [cond_false]
  obtain ⟨r, hr, hq⟩ := loopL_inv (f := gbh_58F) a
   (fun i (_ : Unit) => (a, b, (i : Int), ())) (fun i _ => ∀ j, j < i → a[j]? = b[j]?) (fun r => r = if a = b then .inr () else .inl (false, ())) (by
    intro i x _ hx hI
    have hi := lt_of_get hx
    obtain ⟨y, hy⟩ := get_of_lt (l := b) (k := i) (by omega)
    simp only [gbh_58F, gbh_58r, show decide ((i : Int) < (a.length : Int)) = true by rw [decide_eq_true_eq]; omega, cond_true, idx_get hx, idx_get hy, Option.bind_some, wrap_succ hi ha]
    by_cases hxy : x = y
    ·left
     refine ⟨(), by rw [show (x != y) = false by simpa using hxy]; rfl, fun j hj => ?_⟩
     by_cases hij : j = i
     ·subst hij; rw [hx, hy, hxy]
     ·exact hI j (by omega)
    ·right
     refine ⟨.inl (false, ()), by rw [show (x != y) = true by simpa using hxy]; rfl, ?_⟩
     rw [if_neg]
     intro e; subst e
     exact hxy (Option.some.inj (hx.symm.trans hy)))
   (by
    intro _ hI
    refine ⟨.inr (), by simp only [gbh_58F, gbh_58r, show decide ((a.length : Int) < (a.length : Int)) = false by simp, cond_false], ?_⟩
    rw [if_pos]
    refine List.ext_getElem? fun j => ?_
    by_cases hj : j < a.length
    ·exact hI j hj
    ·rw [List.getElem?_eq_none (by omega), List.getElem?_eq_none (by omega)]) () (fun j hj => by omega)
  have hr' : gbh_58 a b 0 = some r := hr
  rw [hr', hq]
  by_cases e : a = b
  ·simp [e, sumElim_inr]
  ·simp [e, sumElim_inl]
 ·rw [show (((a.length : Nat) : Int) != ((b.length : Nat) : Int)) = true by rw [bne_iff_ne]; omega]
  have : a ≠ b := fun e => hl (by rw [e])
  simp [this]
theorem sameCuts_eq (a b : List CutT) (ha : a.length ≤ Big) : gda a b = some (decide (a = b), ()) := by
 unfold gda
 by_cases hl : a.length = b.length
 ·rw [show (((a.length : Nat) : Int) != ((b.length : Nat) : Int)) = false by rw [bne_eq_false_iff_eq]; omega]
  simp only [cond_false]
  obtain ⟨r, hr, hq⟩ := loopL_inv (f := gda_58F) a
   (fun i (_ : Unit) => (a, b, (i : Int), ())) (fun i _ => ∀ j, j < i → a[j]? = b[j]?) (fun r => r = if a = b then .inr () else .inl (false, ())) (by
    intro i x _ hx hI
    have hi := lt_of_get hx
    obtain ⟨y, hy⟩ := get_of_lt (l := b) (k := i) (by omega)
    have hb : ((x.1 == y.1) && ((x.2.1 == y.2.1) && ((x.2.2 == y.2.2) && true))) = decide (x = y) := by
     obtain ⟨x1, x2, x3⟩ := x
     obtain ⟨y1, y2, y3⟩ := y
     rw [Bool.eq_iff_iff]
     simp [Prod.ext_iff]
    simp only [gda_58F, gda_58r, show decide ((i : Int) < (a.length : Int)) = true by rw [decide_eq_true_eq]; omega, cond_true, idx_get hx, idx_get hy, Option.bind_some, wrap_succ hi ha, hb]
    by_cases hxy : x = y
    ·left
     refine ⟨(), by rw [show (!decide (x = y)) = false by simpa using hxy]; rfl, fun j hj => ?_⟩
     by_cases hij : j = i
     ·subst hij; rw [hx, hy, hxy]
     ·exact hI j (by omega)
    ·right
     refine ⟨.inl (false, ()), by rw [show (!decide (x = y)) = true by simpa using hxy]; rfl, ?_⟩
     rw [if_neg]
     intro e; subst e
     exact hxy (Option.some.inj (hx.symm.trans hy)))
   (by
    intro _ hI
    refine ⟨.inr (), by simp only [gda_58F, gda_58r, show decide ((a.length : Int) < (a.length : Int)) = false by simp, cond_false], ?_⟩
    rw [if_pos]
    refine List.ext_getElem? fun j => ?_
    by_cases hj : j < a.length
    ·exact hI j hj
    ·rw [List.getElem?_eq_none (by omega), List.getElem?_eq_none (by omega)]) () (fun j hj => by omega)
  have hr' : gda_58 a b 0 = some r := hr
  rw [hr', hq]
  by_cases e : a = b
  ·simp [e, sumElim_inr]
  ·simp [e, sumElim_inl]
 ·rw [show (((a.length : Nat) : Int) != ((b.length : Nat) : Int)) = true by rw [bne_iff_ne]; omega]
  have : a ≠ b := fun e => hl (by rw [e])
  simp [this]
def easyC : List CondT := [(1, 0, 0, 100, 60, 1)]
def easyZ : List ZoneT := [([(1, 0, 0, 0)], 1, [0], 1)]
def easyS : List SensorT := [(0, 1, 0, 0, 1000, 1, 1000, 60)]
def easyR : List RoadT := [(0, 1, 1, 4, false, false, 1, 1, 90000, 90000)]
def easyP : List PlaceT := [(0, true), (0, true)]
theorem next_o (n : Int) : gab [] 0 n = some (0, (([], 0, ()), ())) := by
 unfold gab
 cases decide (n < 1) <;> rfl
theorem range_o (a b : Int) (h : -1000 ≤ a) (h2 : a ≤ 1000) : gac [] 0 a b = some (a, (([], 0, ()), ())) := by
 unfold gac
 rw [next_o]
 simp only [Option.bind_some, Int.add_zero, wrap64 (n := a) (by omega) (by omega)]
theorem easy_ok : gad [] 0 = some (((easyP, easyR, [], [], easyS, easyC, easyZ, [1, 2], ()), ([(-1, 0, 0, true, false)], [0], 3, ()), ()), (([], 0, ()), ())) := by
 unfold gad
 simp only [range_o 1 4 (by omega) (by omega), range_o 1 5 (by omega) (by omega), next_o, Option.bind_some]
 unfold gad_506
 rw [loopL_step]
 rfl
theorem easyBig : SiteBig easyP easyR [] [] easyS easyC easyZ [1, 2] := by
 refine ⟨⟨by decide, by decide, by decide, by decide, by simp, by simp⟩, by decide, by decide, by decide, by decide, ?_, ?_⟩
 ·intro x hx
  simp only [easyZ, List.mem_singleton] at hx; subst hx; decide
 ·intro x hx
  simp only [easyZ, List.mem_singleton] at hx; subst hx; decide
theorem easyCheck : eSite easyP easyR [] [] easyS easyC easyZ [1, 2] = 0 := by decide
theorem awake_ok : gbi = some (true, ()) := by
 unfold gbi
 have h0 : gaa = some ((([], 0, ()), ())) := rfl
 have m1 : ∀ m ∈ ([(-1, 0, 0, 0)] : List MeasT), MeasOk m := by
  intro m hm; simp only [List.mem_singleton] at hm; subst hm; unfold MeasOk; simp
 have m2 : ∀ m ∈ ([(0, 0, 1, 2)] : List MeasT), MeasOk m := by
  intro m hm; simp only [List.mem_singleton] at hm; subst hm; unfold MeasOk; simp
 rw [h0]
 simp only [Option.bind_some, easy_ok, values_eq easyBig m1, values_eq easyBig m2, easyCheck]
 have v1 : valuesS 0 easyR.length easyS easyC [(-1, 0, 0, 0)] [(false, -1, 0)] [(300, 300)] 3 = ([0], [(true, -1, 3)], 0, ()) := by decide
 have v2 : valuesS 0 easyR.length easyS easyC [(0, 0, 1, 2)] [(false, -1, 0)] [(300, 300)] 3 = ([-1], [(false, -1, 3)], 0, ()) := by decide
 rw [v1, v2]
 simp only
 rw [cuts_eq easyBig [0] _ 3 (by decide), cuts_eq easyBig [-1] _ 3 (by decide), siteCheck_eq easyBig, easyCheck]
 have c1 : cutsS 0 easyC.length easyZ [0] [(false, 2, 0)] 3 = ([(true, -1, 0)], [0], 0, ()) := by decide
 have c2 : cutsS 0 easyC.length easyZ [-1] [(false, -1, 0)] 3 = ([(false, 3, 0)], [], 0, ()) := by decide
 rw [c1, c2]
 simp only [Option.bind_some, ints_eq [0] [0] (by decide), ints_eq [-1] [-1] (by decide)]
 rfl
end Go.V

namespace Go.V
open Go
theorem new_ok {l : List Int} (h : ∀ x ∈ l, 0 ≤ x ∧ x ≤ 255) : ∃ l', gbj l = some ((l', 0, ()), ()) ∧ Codes l' 0 := by
 unfold gbj
 refine ⟨l.take (if 300 < l.length then 300 else l.length), ?_, fun x hx => h x (List.mem_of_mem_take hx), by omega, by omega, ?_⟩
 ·by_cases g : 300 < l.length
  ·have : decide ((300 : Int) < (l.length : Int)) = true := by rw [decide_eq_true_eq]; omega
   rw [this, if_pos g]
   simp only [cond_true]
   rw [show (decide ((0 : Int) ≤ 300) && decide ((300 : Int) ≤ (l.length : Int))) = true by simp only [Bool.and_eq_true, decide_eq_true_eq]; omega]
   rfl
  ·have : decide ((300 : Int) < (l.length : Int)) = false := by rw [decide_eq_false_iff_not]; omega
   rw [this, if_neg g]
   simp only [cond_false]
   rw [show (decide ((0 : Int) ≤ (l.length : Int)) && decide ((l.length : Int) ≤ (l.length : Int))) = true by simp only [Bool.and_eq_true, decide_eq_true_eq]; omega]
   rfl
 ·rw [List.length_take]; split <;> omega
theorem truth_ok {l : List Int} {i : Int} (h : Codes l i) : ∃ v j, gcg l i = some (v, ((l, j, ()), ())) ∧ Codes l j ∧ -1 ≤ v ∧ v ≤ 1 := by
 obtain ⟨v, j, e, c, a, b⟩ := next_ok h (n := 3) (by omega)
 refine ⟨v - 1, j, ?_, c, by omega, by omega⟩
 unfold gcg
 rw [e]
 simp only [Option.bind_some, wrap64 (n := v - 1) (by omega) (by omega)]
theorem mod_ok {k n : Int} (hn : 1 ≤ n) (hn2 : n ≤ 1000000000) (h1 : -9223372036854775808 ≤ k) (h2 : k ≤ 9223372036854775807) : ∃ v, gch k n = some (v, ()) ∧ 0 ≤ v ∧ v < n := by
 unfold gch
 have e1 : decide (n < 1) = false := by rw [decide_eq_false_iff_not]; omega
 have e2 : (!decide (n = 0)) = true := by rw [Bool.not_eq_true', decide_eq_false_iff_not]; omega
 simp only [e1, e2, cond_true, cond_false]
 have hlt : Int.tmod k n < n := Int.tmod_lt_of_pos k (by omega)
 have hgt : -n < Int.tmod k n := by
  have h := Int.tmod_lt_of_pos (-k) (show 0 < n by omega)
  rw [Int.neg_tmod] at h; omega
 by_cases h : Int.tmod k n < 0
 ·refine ⟨Int.tmod k n + n, ?_, by omega, by omega⟩
  rw [show decide (Int.tmod k n < 0) = true by simpa using h]
  simp only [cond_true, wrap64 (n := Int.tmod k n + n) (by omega) (by omega)]
 ·refine ⟨Int.tmod k n, ?_, by omega, hlt⟩
  rw [show decide (Int.tmod k n < 0) = false by simpa using h]
  rfl
section
variable {ps : List PlaceT} {rs : List RoadT} {fs : List FanT} {ds : List DoorT} {ss : List SensorT} {ks : List CondT} {zs : List ZoneT} {es : List Int}
theorem cuts_vals {l : List Int} {i : Int} (h : Codes l i) (raw : List Int) (c : List CutT) (t : Int) (hk : ks.length ≤ 1000) :
  ∃ vs j, gdb_506 raw c t l i ps rs fs ds ss ks zs es [] ks.length 0 = some (raw, c, t, (l, j, ()), (ps, rs, fs, ds, ss, ks, zs, es, ()), vs, ()) ∧ Codes l j ∧ vs.length = ks.length := by
 obtain ⟨z, hz, vs, j, e, g1, g2⟩ := loopL_up (f := gdb_506F) (ks.length : Int)
  (fun k (b : Int × List Int) => (raw, c, t, (l, b.1, ()), (ps, rs, fs, ds, ss, ks, zs, es, ()), b.2, (ks.length : Int), k, ()))
  (fun k b => Codes l b.1 ∧ 0 ≤ k ∧ k ≤ ks.length ∧ (b.2.length : Int) = k)
  (fun z => ∃ vs j, z = (raw, c, t, (l, j, ()), (ps, rs, fs, ds, ss, ks, zs, es, ()), vs, ()) ∧ Codes l j ∧ vs.length = ks.length) (by
   rintro k ⟨i', vs⟩ hk ⟨q1, q2, q3, q4⟩
   simp only at q1 q4
   obtain ⟨u, s1, f1, p1, _, _⟩ := truth_ok q1
   refine ⟨(s1, vs ++ [u]), by
    simp only [gdb_506F, gdb_506r, show decide (k < (ks.length : Int)) = true by simpa using hk, cond_true, f1, Option.bind_some, wrap64 (n := k + 1) (by omega) (by omega)]
    rw [show decide ((vs.length + 1) * 8 ≤ 140737488355328) = true by rw [decide_eq_true_eq]; omega]; rfl, p1, by omega, by omega, by simp; omega⟩)
  (by
   rintro k ⟨i', vs⟩ hk ⟨q1, q2, q3, q4⟩
   simp only at q1 q4
   exact ⟨_, by simp only [gdb_506F, gdb_506r, show decide (k < (ks.length : Int)) = false by simpa using hk, cond_false], vs, i', rfl, q1, by omega⟩) 0 (i, []) ⟨h, by omega, by omega, rfl⟩
 exact ⟨vs, j, by rw [← e, ← hz]; rfl, g1, g2⟩
theorem cuts_cuts {l : List Int} {i : Int} (h : Codes l i) (raw : List Int) (c : List CutT) (t : Int) (vs : List Int) (hk : zs.length ≤ 1000) :
  ∃ us, gdb_2042 raw c t l i ps rs fs ds ss ks zs es vs [] zs.length 0 = some (raw, c, t, (ps, rs, fs, ds, ss, ks, zs, es, ()), vs, us, ()) ∧ us.length ≤ 1000 := by
 obtain ⟨z, hz, us, e, hus⟩ := loopL_up (f := gdb_2042F) (zs.length : Int)
  (fun k (b : Int × List CutT) => (raw, c, t, (l, b.1, ()), (ps, rs, fs, ds, ss, ks, zs, es, ()), vs, b.2, (zs.length : Int), k, ()))
  (fun k b => Codes l b.1 ∧ 0 ≤ k ∧ k ≤ zs.length ∧ (b.2.length : Int) = k)
  (fun z => ∃ us, z = (raw, c, t, (ps, rs, fs, ds, ss, ks, zs, es, ()), vs, us, ()) ∧ us.length ≤ 1000) (by
   rintro k ⟨i', us⟩ hk ⟨q1, q2, q3, q4⟩
   simp only at q1 q4
   obtain ⟨u, s1, f1, p1⟩ := one_ok q1 (n := 2) (by omega)
   obtain ⟨u2, s2, f2, p2, _, _⟩ := range_ok p1 (a := -1) (b := 9) (by omega) (by omega) (by omega) (by omega)
   refine ⟨(s2, us ++ [(u, u2, 0)]), by
    simp only [gdb_2042F, gdb_2042r, show decide (k < (zs.length : Int)) = true by simpa using hk, cond_true, f1, f2, Option.bind_some, wrap64 (n := k + 1) (by omega) (by omega)]
    rw [show decide ((us.length + 1) * 24 ≤ 140737488355328) = true by rw [decide_eq_true_eq]; omega]; rfl, p2, by omega, by omega, by simp; omega⟩)
  (by
   rintro k ⟨i', us⟩ hk ⟨q1, q2, q3, q4⟩
   simp only at q4
   exact ⟨_, by simp only [gdb_2042F, gdb_2042r, show decide (k < (zs.length : Int)) = false by simpa using hk, cond_false], us, rfl, by omega⟩) 0 (i, []) ⟨h, by omega, by omega, rfl⟩
 exact ⟨us, by rw [← e, ← hz]; rfl, hus⟩
theorem cuts_times (B : SiteBig ps rs fs ds ss ks zs es) (c us w : List CutT) (time t : Int) (v : List Int) (hv : v.length ≤ Big) (hw : w.length ≤ Big) (hz : zs.length ≤ 1000) (L : List (List Int)) (n1 n2 : Int) (M : List (List CutT)) (n3 n4 : Int) :
  gdb_536503910 c time ps rs fs ds ss ks zs es us t v w L n1 n2 M n3 n4 [t, time] 2 0 = some (.inr (c, time, (ps, rs, fs, ds, ss, ks, zs, es, ()), us, t, v, L, n1, n2, M, n3, n4, ())) := by
 obtain ⟨z, hz, e⟩ := loopL_inv (f := gdb_536503910F) [t, time]
  (fun k (_ : Unit) => (c, time, (ps, rs, fs, ds, ss, ks, zs, es, ()), us, t, v, w, L, n1, n2, M, n3, n4, [t, time], 2, (k : Int), ())) (fun _ _ => True)
  (fun z => z = .inr (c, time, (ps, rs, fs, ds, ss, ks, zs, es, ()), us, t, v, L, n1, n2, M, n3, n4, ())) (by
   intro k u _ hu _
   left
   have hk := lt_of_get hu
   have hk2 : k < 2 := hk
   refine ⟨(), ?_, trivial⟩
   have hlen : (cutsS (eSite ps rs fs ds ss ks zs es) ks.length zs v w u).1.length ≤ Big ∧ (cutsS (eSite ps rs fs ds ss ks zs es) ks.length zs v w u).2.1.length ≤ Big := by
    unfold cutsS
    cases eSite ps rs fs ds ss ks zs es != 0 <;> simp only [cond_true, cond_false]
    ·cases ((v.length : Int) != (ks.length : Int) || (w.length : Int) != (zs.length : Int)) <;> simp only [cond_true, cond_false]
     ·cases decide (u < 0) || decide (u > 2147483648) <;> simp only [cond_true, cond_false]
      ·constructor
       ·unfold outS; rw [List.length_zipWith]; simp only [Big]; omega
       ·have := nowS_len v zs w zs.length; simp only [Big]; omega
      ·simp [Big]
     ·simp [Big]
    ·simp [Big]
   simp only [gdb_536503910F, gdb_536503910r, show decide ((k : Int) < 2) = true by rw [decide_eq_true_eq]; omega, inb (k := (k : Int)) (n := ([t, time] : List Int).length) (by omega) (by omega), cond_true, Int.toNat_natCast, hu, Option.bind_some,
    cuts_eq B v w u hv, refCuts_eq B v w u, sameCuts_eq _ _ hlen.1, ints_eq _ _ hlen.2, bne_self_eq_false, cond_false, decide_true, Bool.not_true, wrap64 (n := (k : Int) + 1) (by omega) (by omega)]
   rfl)
  (by
   intro _ _
   exact ⟨_, rfl, rfl⟩) () trivial
 rw [← e]; exact hz
theorem cuts_lists (B : SiteBig ps rs fs ds ss ks zs es) (c us : List CutT) (time t : Int) (v : List Int) (hv : v.length ≤ Big) (hc : c.length ≤ Big) (hu : us.length ≤ Big) (hz : zs.length ≤ 1000) (L : List (List Int)) (n1 n2 : Int) :
  gdb_2095718 c time ps rs fs ds ss ks zs es us t v L n1 n2 [us, c] 2 0 = some (.inr (c, time, (ps, rs, fs, ds, ss, ks, zs, es, ()), us, t, L, n1, n2, ())) := by
 obtain ⟨z, hz, e⟩ := loopL_inv (f := gdb_2095718F) [us, c]
  (fun k (_ : Unit) => (c, time, (ps, rs, fs, ds, ss, ks, zs, es, ()), us, t, v, L, n1, n2, [us, c], 2, (k : Int), ())) (fun _ _ => True)
  (fun z => z = .inr (c, time, (ps, rs, fs, ds, ss, ks, zs, es, ()), us, t, L, n1, n2, ())) (by
   intro k w _ hw _
   left
   have hk := lt_of_get hw
   have hk2 : k < 2 := hk
   have hwl : w.length ≤ Big := by
    have := List.mem_of_getElem? hw
    simp only [List.mem_cons, List.not_mem_nil, or_false] at this
    rcases this with rfl | rfl <;> assumption
   refine ⟨(), ?_, trivial⟩
   simp only [gdb_2095718F, gdb_2095718r, show decide ((k : Int) < 2) = true by rw [decide_eq_true_eq]; omega, inb (k := (k : Int)) (n := ([us, c] : List (List CutT)).length) (by omega) (by omega), cond_true, Int.toNat_natCast, hw, Option.bind_some,
    cuts_times B c us w time t v hv hwl hz, sumElim_inr, wrap64 (n := (k : Int) + 1) (by omega) (by omega)]
   rfl)
  (by
   intro _ _
   exact ⟨_, rfl, rfl⟩) () trivial
 rw [← e]; exact hz
theorem cuts_all (B : SiteBig ps rs fs ds ss ks zs es) (c us : List CutT) (time t : Int) (v raw : List Int) (hv : v.length ≤ Big) (hr : raw.length ≤ Big) (hc : c.length ≤ Big) (hu : us.length ≤ Big) (hz : zs.length ≤ 1000) :
  gdb_8186 c time ps rs fs ds ss ks zs es us t [v, raw] 2 0 = some (.inr ()) := by
 obtain ⟨z, hz, e⟩ := loopL_inv (f := gdb_8186F) [v, raw]
  (fun k (_ : Unit) => (c, time, (ps, rs, fs, ds, ss, ks, zs, es, ()), us, t, [v, raw], 2, (k : Int), ())) (fun _ _ => True) (fun z => z = .inr ()) (by
   intro k w _ hw _
   left
   have hk := lt_of_get hw
   have hk2 : k < 2 := hk
   have hwl : w.length ≤ Big := by
    have := List.mem_of_getElem? hw
    simp only [List.mem_cons, List.not_mem_nil, or_false] at this
    rcases this with rfl | rfl <;> assumption
   refine ⟨(), ?_, trivial⟩
   simp only [gdb_8186F, gdb_8186r, show decide ((k : Int) < 2) = true by rw [decide_eq_true_eq]; omega, inb (k := (k : Int)) (n := ([v, raw] : List (List Int)).length) (by omega) (by omega), cond_true, Int.toNat_natCast, hw, Option.bind_some,
    cuts_lists B c us time t w hwl hc hu hz, sumElim_inr, wrap64 (n := (k : Int) + 1) (by omega) (by omega)]
   rfl)
  (by
   intro _ _
   exact ⟨_, rfl, rfl⟩) () trivial
 rw [← e]; exact hz
end
theorem cutoffCuts_ok (codes raw : List Int) (c : List CutT) (time : Int) (h : ∀ x ∈ codes, 0 ≤ x ∧ x ≤ 255) (h1 : -9223372036854775808 ≤ time) (h2 : time ≤ 9223372036854775807) :
  gdb codes raw c time = some (true, ()) := by
 unfold gdb
 simp only [cond_some, cond_or, Option.bind_some]
 cases hb : decide ((raw.length : Int) > 80) || decide ((c.length : Int) > 40) <;> simp only [cond_true, cond_false]
 ·simp only [Bool.or_eq_false_iff, decide_eq_false_iff_not] at hb
  obtain ⟨l, e0, c0⟩ := new_ok h
  obtain ⟨ps, rs, fs, ds, ss, ks, zs, tf, td, tf', td', pr, fl, j1, e1, c1, S, _, _⟩ := site_ok c0
  have hk := S.cl
  have hz := S.zl
  obtain ⟨vs, j2, e2, c2, hvs⟩ := cuts_vals (ps := ps) (rs := rs) (fs := fs) (ds := ds) (ss := ss) (ks := ks) (zs := zs) (es := [1, 2, 1, 3]) c1 raw c time (by omega)
  obtain ⟨us, e3, hus⟩ := cuts_cuts (ps := ps) (rs := rs) (fs := fs) (ds := ds) (ss := ss) (ks := ks) (zs := zs) (es := [1, 2, 1, 3]) c2 raw c time vs (by omega)
  obtain ⟨m, e4, m1, m2⟩ := mod_ok (k := time) (n := 30) (by omega) (by omega) h1 h2
  rw [e0]
  simp only [Option.bind_some]
  rw [e1]
  simp only [Option.bind_some]
  rw [e2]
  simp only [Option.bind_some]
  rw [e3]
  simp only [Option.bind_some]
  rw [e4]
  simp only [Option.bind_some]
  rw [wrap64 (n := 9 + m) (by omega) (by omega), cuts_all S.big c us time (9 + m) vs raw (by unfold Big; omega) (by unfold Big; omega) (by unfold Big; omega) (by unfold Big; omega) (by omega)]
  simp only [Option.bind_some, sumElim_inr, awake_ok]
 ·rw [awake_ok]; rfl
end Go.V

