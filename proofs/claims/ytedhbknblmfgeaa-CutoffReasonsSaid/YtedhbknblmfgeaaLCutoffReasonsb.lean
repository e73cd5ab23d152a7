/-
  Plain Lean: what the functions of CutoffReasons make of all inputs, part 2.
-/
import Derived.Test.YtedhbknblmfgeaaLCutoffReasonsa
set_option linter.all false
namespace Go.V
open Go
section
variable {ps : List PlaceT} {rs : List RoadT} {fs : List FanT} {ds : List DoorT} {ss : List SensorT} {ks : List CondT} {zs : List ZoneT} {es : List Int}
theorem reas_vals {l : List Int} {i : Int} (h : Codes l i) (t : Int) (hk : ks.length ≤ 1000) :
    ∃ vs j, gcm_250 t l i ps rs fs ds ss ks zs es [] ks.length 0 = some (t, (l, j, ()), (ps, rs, fs, ds, ss, ks, zs, es, ()), vs, ()) ∧ Codes l j ∧ vs.length = ks.length := by
  obtain ⟨z, hz, vs, j, e, g1, g2⟩ := loopL_up (f := gcm_250F) (ks.length : Int)
    (fun k (b : Int × List Int) => (t, (l, b.1, ()), (ps, rs, fs, ds, ss, ks, zs, es, ()), b.2, (ks.length : Int), k, ()))
    (fun k b => Codes l b.1 ∧ 0 ≤ k ∧ k ≤ ks.length ∧ (b.2.length : Int) = k)
    (fun z => ∃ vs j, z = (t, (l, j, ()), (ps, rs, fs, ds, ss, ks, zs, es, ()), vs, ()) ∧ Codes l j ∧ vs.length = ks.length) (by
      rintro k ⟨i', vs⟩ hk ⟨q1, q2, q3, q4⟩
      simp only at q1 q4
      obtain ⟨u, s1, f1, p1, _, _⟩ := truth_ok q1
      refine ⟨(s1, vs ++ [u]), by
        simp only [gcm_250F, gcm_250r, show decide (k < (ks.length : Int)) = true by simpa using hk, cond_true, f1, Option.bind_some, wrap64 (n := k + 1) (by omega) (by omega)]
        rw [show decide ((vs.length + 1) * 8 ≤ 140737488355328) = true by rw [decide_eq_true_eq]; omega]; rfl, p1, by omega, by omega, by simp; omega⟩)
    (by
      rintro k ⟨i', vs⟩ hk ⟨q1, q2, q3, q4⟩
      simp only at q1 q4
      exact ⟨_, by simp only [gcm_250F, gcm_250r, show decide (k < (ks.length : Int)) = false by simpa using hk, cond_false], vs, i', rfl, q1, by omega⟩) 0 (i, []) ⟨h, by omega, by omega, rfl⟩
  exact ⟨vs, j, by rw [← e, ← hz]; rfl, g1, g2⟩
theorem reas_cuts {l : List Int} {i : Int} (h : Codes l i) (t : Int) (vs : List Int) (hk : zs.length ≤ 1000) :
    ∃ us, gcm_1018 t l i ps rs fs ds ss ks zs es vs [] zs.length 0 = some (t, (ps, rs, fs, ds, ss, ks, zs, es, ()), vs, us, ()) ∧ us.length = zs.length ∧ ∀ u ∈ us, -1 ≤ u.2.1 ∧ u.2.1 ≤ 9 := by
  obtain ⟨z, hz, us, e, g1, g2⟩ := loopL_up (f := gcm_1018F) (zs.length : Int)
    (fun k (b : Int × List CutT) => (t, (l, b.1, ()), (ps, rs, fs, ds, ss, ks, zs, es, ()), vs, b.2, (zs.length : Int), k, ()))
    (fun k b => Codes l b.1 ∧ 0 ≤ k ∧ k ≤ zs.length ∧ (b.2.length : Int) = k ∧ ∀ u ∈ b.2, -1 ≤ u.2.1 ∧ u.2.1 ≤ 9)
    (fun z => ∃ us, z = (t, (ps, rs, fs, ds, ss, ks, zs, es, ()), vs, us, ()) ∧ us.length = zs.length ∧ ∀ u ∈ us, -1 ≤ u.2.1 ∧ u.2.1 ≤ 9) (by
      rintro k ⟨i', us⟩ hk ⟨q1, q2, q3, q4, q5⟩
      simp only at q1 q4 q5
      obtain ⟨u, s1, f1, p1⟩ := one_ok q1 (n := 2) (by omega)
      obtain ⟨u2, s2, f2, p2, c2, d2⟩ := range_ok p1 (a := -1) (b := 9) (by omega) (by omega) (by omega) (by omega)
      have hl : decide ((us.length + 1) * 24 ≤ 140737488355328) = true := by rw [decide_eq_true_eq]; omega
      have hmem : ∀ x, ∀ w ∈ us ++ [(u, u2, x)], -1 ≤ w.2.1 ∧ w.2.1 ≤ 9 := by
        intro x w hw
        rcases List.mem_append.1 hw with hw | hw
        · exact q5 w hw
        · simp only [List.mem_singleton] at hw; subst hw; exact ⟨c2, d2⟩
      simp only [gcm_1018F, gcm_1018r, show decide (k < (zs.length : Int)) = true by simpa using hk, cond_true, f1, f2, Option.bind_some, gcm_130355, hl]
      cases u
      · refine ⟨(s2, us ++ [(false, u2, 0)]), by simp only [cond_false, wrap64 (n := k + 1) (by omega) (by omega)], p2, by omega, by omega, by simp; omega, hmem 0⟩
      · obtain ⟨u3, s3, f3, p3, _, _⟩ := next_ok p2 (n := 2) (by omega)
        refine ⟨(s3, us ++ [(true, u2, u3)]), by simp only [cond_true, f3, Option.bind_some, wrap64 (n := k + 1) (by omega) (by omega)], p3, by omega, by omega, by simp; omega, hmem u3⟩)
    (by
      rintro k ⟨i', us⟩ hk ⟨q1, q2, q3, q4, q5⟩
      simp only at q4 q5
      exact ⟨_, by simp only [gcm_1018F, gcm_1018r, show decide (k < (zs.length : Int)) = false by simpa using hk, cond_false], us, rfl, by omega, q5⟩) 0 (i, []) ⟨h, by omega, by omega, rfl, by simp⟩
  exact ⟨us, by rw [← e, ← hz]; rfl, g1, g2⟩
theorem mem_now {vals : List Int} {zs : List ZoneT} {cs : List CutT} {n i : Nat} (hi : i < n) : ((i : Int) ∈ nowS vals zs cs n) ↔ firedAt vals zs cs i = true := by
  unfold nowS
  rw [List.mem_map]
  constructor
  · rintro ⟨a, ha, e⟩
    rw [List.mem_filter] at ha
    have : a = i := by
      have e : (a : Int) = (i : Int) := e
      omega
    subst this; exact ha.2
  · intro h
    exact ⟨i, List.mem_filter.2 ⟨List.mem_range.2 hi, h⟩, rfl⟩
theorem reas_all (B : SiteBig ps rs fs ds ss ks zs es) (vs : List Int) (us : List CutT) (hu : us.length = zs.length) (hur : ∀ u ∈ us, -1 ≤ u.2.1 ∧ u.2.1 ≤ 9) (t : Int) (ht : 9 ≤ t) (ht2 : t ≤ 1000000000) (hz : zs.length ≤ 1000) :
    gcm_16378 ps rs fs ds ss ks zs es vs us t (outS vs t zs us) (nowS vs zs us zs.length) zs.length 0 = some (.inr ()) := by
  have hnl : (nowS vs zs us zs.length).length ≤ Big := by have := nowS_len vs zs us zs.length; simp only [Big]; omega
  have hol : (outS vs t zs us).length = zs.length := by unfold outS; rw [List.length_zipWith]; omega
  obtain ⟨r, hr, e⟩ := loopL_inv (f := gcm_16378F) zs
    (fun k (_ : Unit) => ((ps, rs, fs, ds, ss, ks, zs, es, ()), vs, us, t, outS vs t zs us, nowS vs zs us zs.length, (), (zs.length : Int), (k : Int), ())) (fun _ _ => True) (fun r => r = .inr ()) (by
      intro k z _ hzk _
      left
      have hk := lt_of_get hzk
      obtain ⟨c, hc⟩ := get_of_lt (l := us) (k := k) (by omega)
      have hcr := hur c (List.mem_of_getElem? hc)
      have ho : (outS vs t zs us)[k]? = some (newCut vs t z c) := by unfold outS; rw [List.getElem?_zipWith, hzk, hc]
      have hm : decide ((k : Int) ∈ nowS vs zs us zs.length) = fired vs z c := by
        rw [Bool.eq_iff_iff, decide_eq_true_eq, mem_now hk]
        unfold firedAt; rw [hzk, hc]
      refine ⟨(), ?_, trivial⟩
      simp only [gcm_16378F, gcm_16378r, show decide ((k : Int) < (zs.length : Int)) = true by rw [decide_eq_true_eq]; omega, cond_true, inb (k := (k : Int)) (n := zs.length) (by omega) (by omega), inb (k := (k : Int)) (n := (outS vs t zs us).length) (by omega) (by omega), inb (k := (k : Int)) (n := us.length) (by omega) (by omega),
        Int.toNat_natCast, hzk, hc, ho, Option.bind_some, refEval_eq, has_list _ _ hnl, hm, cond_some, cond_or, cond_and, wrap_succ hk (show zs.length ≤ Big by simp only [Big]; omega)]
      have hbad : ((((fired vs z c && ((newCut vs t z c).2.2 != evalS z.1 vs || evalS z.1 vs == -1)) || (!fired vs z c && (newCut vs t z c).2.2 != c.2.2)) || decide ((newCut vs t z c).2.1 > t)) || !((newCut vs t z c).2.1 == -1) == (evalS z.1 vs != -1)) = false ∧ ((evalS z.1 vs == -1 && decide (c.2.1 ≥ 0)) && (newCut vs t z c).2.1 != c.2.1) = false := by
        unfold newCut fired
        by_cases hv : evalS z.1 vs = -1
        · rw [if_pos hv, show (evalS z.1 vs != -1) = false by simpa using hv, show (evalS z.1 vs == -1) = true by simpa using hv]
          by_cases h2 : c.2.1 = -1
          · rw [if_pos h2]
            simp only [h2]
            have h3 : ¬ t = -1 := by omega
            simp [h3]
          · rw [if_neg h2]
            have h3 : ¬ c.2.1 > t := by omega
            simp [h2, h3]
        · rw [if_neg hv, show (evalS z.1 vs != -1) = true by simpa using hv, show (evalS z.1 vs == -1) = false by simpa using hv]
          have h3 : ¬ t < -1 := by omega
          cases h1 : c.1
          · simp [h3]
          · simp [h3]
      rw [hbad.1, hbad.2, show decide (0 ≤ (k : Int)) = true by rw [decide_eq_true_eq]; omega]
      rfl)
    (by
      intro _ _
      exact ⟨.inr (), by simp only [gcm_16378F, gcm_16378r, show decide ((zs.length : Int) < (zs.length : Int)) = false by simp, cond_false], rfl⟩) () trivial
  rw [← e]; exact hr
end
theorem cutoffReasons_ok (codes : List Int) (time : Int) (h : ∀ x ∈ codes, 0 ≤ x ∧ x ≤ 255) (h1 : 0 ≤ time) (h2 : time ≤ 255) :
    gcm codes time = some (true, ()) := by
  unfold gcm
  obtain ⟨l, e0, c0⟩ := new_ok h
  obtain ⟨ps, rs, fs, ds, ss, ks, zs, tf, td, tf', td', pr, fl, j1, e1, c1, S, _, _⟩ := site_ok c0
  have hk := S.cl
  have hz := S.zl
  obtain ⟨vs, j2, e2, c2, hvs⟩ := reas_vals (ps := ps) (rs := rs) (fs := fs) (ds := ds) (ss := ss) (ks := ks) (zs := zs) (es := [1, 2, 1, 3]) c1 time (by omega)
  obtain ⟨us, e3, hus, hur⟩ := reas_cuts (ps := ps) (rs := rs) (fs := fs) (ds := ds) (ss := ss) (ks := ks) (zs := zs) (es := [1, 2, 1, 3]) c2 time vs (by omega)
  rw [e0]
  simp only [Option.bind_some]
  rw [e1]
  simp only [Option.bind_some]
  rw [e2]
  simp only [Option.bind_some]
  rw [e3]
  simp only [Option.bind_some]
  rw [wrap64 (n := time) (by omega) (by omega), wrap64 (n := 9 + time) (by omega) (by omega), cuts_eq S.big vs us (9 + time) (by unfold Big; omega), S.check]
  have hc : cutsS 0 ks.length zs vs us (9 + time) = (outS vs (9 + time) zs us, nowS vs zs us zs.length, 0, ()) := by
    unfold cutsS
    rw [show ((vs.length : Int) != (ks.length : Int) || (us.length : Int) != (zs.length : Int)) = false by simp only [Bool.or_eq_false_iff, bne_eq_false_iff_eq]; omega,
      show (decide (9 + time < 0) || decide (9 + time > 2147483648)) = false by simp only [Bool.or_eq_false_iff, decide_eq_false_iff_not]; omega]
    rfl
  have hol : (outS vs (9 + time) zs us).length = us.length := by unfold outS; rw [List.length_zipWith]; omega
  rw [hc]
  simp only [Option.bind_some, cond_some, cond_or, hol, bne_self_eq_false, cond_false, Bool.or_false]
  rw [reas_all S.big vs us hus hur (9 + time) (by omega) (by omega) (by omega)]
  simp only [Option.bind_some, sumElim_inr, awake_ok]
end Go.V

