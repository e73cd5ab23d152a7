/-
  For every input the law CutoffCuts returns true, and its input reads behind the call as it read before: no further condition.
-/
import Derived.Test.YtedhbknblmfgeaaRows
import Derived.Test.YtedhbknblmfgeaaPCutoffCutsa
import Derived.Test.YtedhbknblmfgeaaLCutoffCutsb
import Derived.WalkKit
import Derived.ProofKit
import Derived.OpenShut
import Derived.ShutString
import Derived.ChangeOld
import Derived.Below
import Derived.SizedLaws
set_option linter.all false
namespace Go.Proofs.Ytedhbknblmfgeaa.cutoffCuts
open Go.ChangeShapes Go.WideShapes Go.ChangeAt Go.RowKit
open Go.ChangeMaps (open_string shut_string)
theorem own : ownKnob Try.prog.godebug = none := by kernel_rfl
theorem laidOut : laidOutB Try.prog = true := by kernel_rfl
theorem wf_i64 {n : Int} (h : (Lit.int .i64 n).wf = true) : -9223372036854775808 ≤ n ∧ n ≤ 9223372036854775807 := by
  have h : (decide (IntKind.min .i64 ≤ n) && decide (n ≤ IntKind.max .i64)) = true := h
  rw [Bool.and_eq_true, decide_eq_true_eq, decide_eq_true_eq, show IntKind.min .i64 = -9223372036854775808 from by decide +kernel, show IntKind.max .i64 = 9223372036854775807 from by decide +kernel] at h
  exact h
theorem wf_u8 {n : Int} (h : (Lit.int .u8 n).wf = true) : 0 ≤ n ∧ n ≤ 255 := by
  have h : (decide (IntKind.min .u8 ≤ n) && decide (n ≤ IntKind.max .u8)) = true := h
  rw [Bool.and_eq_true, decide_eq_true_eq, decide_eq_true_eq, show IntKind.min .u8 = 0 from by decide +kernel, show IntKind.max .u8 = 255 from by decide +kernel] at h
  exact h
theorem fit_u8 {z : List Int} (h : V.Ty.fit (.sl (.one (.int .u8))) z) : ∀ n ∈ z, 0 ≤ n ∧ n ≤ 255 := by
  intro n hn
  exact wf_u8 (V.fit_ints h n hn)
theorem walk (a0 : Option Addr) (len0 cap0 : Nat) (z0 : List (V.Row.den (.one (.int .u8)))) (a1 : Option Addr) (len1 cap1 : Nat) (z1 : List (V.Row.den (.one (.int .i64)))) (a2 : Option Addr) (len2 cap2 : Nat) (z2 : List (V.Row.den (.cons .bool (.cons (.int .i64) (.one (.int .i64)))))) (a3 : Int) (W : World) (w0 : V.ArgRel W (.sl (.one (.int .u8)) z0) (.slice a0 len0 cap0)) (f0 : V.Ty.fit (.sl (.one (.int .u8))) z0) (w1 : V.ArgRel W (.sl (.one (.int .i64)) z1) (.slice a1 len1 cap1)) (f1 : V.Ty.fit (.sl (.one (.int .i64))) z1) (w2 : V.ArgRel W (.sl (.cons .bool (.cons (.int .i64) (.one (.int .i64)))) z2) (.slice a2 len2 cap2)) (f2 : V.Ty.fit (.sl (.cons .bool (.cons (.int .i64) (.one (.int .i64))))) z2) (w3 : (Lit.int .i64 a3).wf = true) :
    Calls Try.prog 5 #[.slice a0 len0 cap0, .slice a1 len1 cap1, .slice a2 len2 cap2, .int .i64 a3] W fun e W' => e = .returned (.bool true) ∧ Below W.heap.size W W' := by
  have hT := V.cutoffCuts_ok z0 z1 z2 a3 (fit_u8 f0) (wf_i64 w3).1 (wf_i64 w3).2
  exact (V.gdbK (z0, z1, z2, a3, ()) (true, ()) hT).law W [.slice a0 len0 cap0, .slice a1 len1 cap1, .slice a2 len2 cap2, .int .i64 a3] ⟨w0, w1, w2, rfl, trivial⟩
set_option maxRecDepth 100000 in
theorem lifted (os : Os) (started : os.Started) (H : Type) (enc : TypeId × Value → H) :
    ReturnsInHanded {} Try.checked os 5 .any (Rows.cutoffCutsSpec.pre6 enc Try.prog Try.f5 Rows.cutoffCutsRow.domain false) (Rows.cutoffCutsSpec.post enc Try.prog Try.f5 false true false false) := by
  refine returnsInHanded_of_change_sized (C := Try.checked) own started (by kernel_rfl) Try.func5
    (ChangeSpec.witness6 (enc := enc) (C := Try.checked) false ⟨#[], #[.slice none 0 0, .slice none 0 0, .slice none 0 0, .int .i64 0], []⟩ 8 (by kernel_rfl) (by kernel_rfl) (by kernel_rfl) (by kernel_rfl)) ?_
  intro W base args ds gs before hval0 hW hcnd hsz0 _
  have hval : ∀ (j : Nat) t v, Try.f5.params[j]? = some t → args[j]? = some v → Value.okWide Try.prog W .any base t v := hval0
  have hW' := hW
  obtain ⟨p, q, hA0, hV, rfl, hfz, hnd⟩ := hW
  have hA : DataW.TrodAll enc Try.prog W 0 (fun _ => true) true Try.f5.params.toList args.toList ds p := hA0
  rw [Try.params5] at hA hval
  obtain ⟨v0, vs0, d0, ds0, p0, q0, hargs, rfl, rfl, h0, r0⟩ := trodAll_cons hA
  obtain ⟨v1, vs1, d1, ds1, p1, q1, rfl, rfl, rfl, h1, r1⟩ := trodAll_cons r0
  obtain ⟨v2, vs2, d2, ds2, p2, q2, rfl, rfl, rfl, h2, r2⟩ := trodAll_cons r1
  obtain ⟨v3, vs3, d3, ds3, p3, q3, rfl, rfl, rfl, h3, r3⟩ := trodAll_cons r2
  obtain ⟨rfl, rfl, rfl⟩ := trodAll_nil r3
  obtain rfl : args = #[v0, v1, v2, v3] := by cases args; simp_all
  obtain ⟨rfl, rfl⟩ := trodVars_none hV
  obtain ⟨a0, len0, cap0, rfl⟩ := okWide_slice Try.underlying22 (hval 0 22 v0 rfl rfl)
  have k0 := h0
  have lt0 : ∀ x ∈ p0, x.block < W.heap.size := by obtain ⟨m, hm⟩ := k0; exact DataW.trod_lt m _ _ _ hm
  obtain ⟨z0, w0, f0⟩ := V.slice_open (d := 12) (r := (.one (.int .u8))) (by kernel_rfl) h0
  obtain ⟨a1, len1, cap1, rfl⟩ := okWide_slice Try.underlying38 (hval 1 38 v1 rfl rfl)
  have k1 := h1
  have lt1 : ∀ x ∈ p1, x.block < W.heap.size := by obtain ⟨m, hm⟩ := k1; exact DataW.trod_lt m _ _ _ hm
  obtain ⟨z1, w1, f1⟩ := V.slice_open (d := 12) (r := (.one (.int .i64))) (by kernel_rfl) h1
  obtain ⟨a2, len2, cap2, rfl⟩ := okWide_slice Try.underlying68 (hval 2 68 v2 rfl rfl)
  have k2 := h2
  have lt2 : ∀ x ∈ p2, x.block < W.heap.size := by obtain ⟨m, hm⟩ := k2; exact DataW.trod_lt m _ _ _ hm
  obtain ⟨z2, w2, f2⟩ := V.slice_open (d := 12) (r := (.cons .bool (.cons (.int .i64) (.one (.int .i64))))) (by kernel_rfl) h2
  obtain ⟨a3, rfl, rfl, rfl, w3⟩ := open_int Try.underlying3 (hval 3 3 v3 rfl rfl) h3
  clear hA0 hval0 hsz0
  refine (walk a0 len0 cap0 z0 a1 len1 cap1 z1 a2 len2 cap2 z2 a3 W w0 f0 w1 f1 w2 f2 w3).mono fun e W' ⟨he, bel⟩ => ?_
  subst he
  exact ⟨_, rfl, _, _, _, [], _, [], hW', trodAll_mk1 (shut_bool Try.underlying4 _), (trodAll_cons_mk (Below.trod laidOut (by kernel_rfl) (of_decide_eq_true (by kernel_rfl)) k0 bel lt0) (trodAll_cons_mk (Below.trod laidOut (by kernel_rfl) (of_decide_eq_true (by kernel_rfl)) k1 bel lt1) (trodAll_cons_mk (Below.trod laidOut (by kernel_rfl) (of_decide_eq_true (by kernel_rfl)) k2 bel lt2) (trodAll_cons_mk (shut_int Try.underlying3 w3) trodAll_mk0)))), rfl, bel.frame _, fun h => by cases h⟩
theorem over : Rows.cutoffCutsRow.holds Try.pinned (OpenSpec.ofChange Rows.cutoffCutsSpec) :=
  OpenClaim.holds_of_wide 5 Try.f5 rfl rfl rfl rfl rfl rfl rfl ⟨rfl, rfl, rfl, rfl, rfl⟩ rfl rfl rfl rfl rfl (by kernel_rfl) Try.func5 (by kernel_rfl)
    (of_decide_eq_true (by kernel_rfl)) (by unfold Func.isWrapper; first | (rw [if_pos (by decide +kernel)]; kernel_rfl) | (rw [if_neg (by decide +kernel)]; exact ⟨rfl, rfl⟩))
    (fun os started H enc _ => lifted os started H enc)
theorem proved : Rows.CutoffCutsSaid := over
#print axioms proved
end Go.Proofs.Ytedhbknblmfgeaa.cutoffCuts
namespace Go.Proofs.Ytedhbknblmfgeaa
theorem cutoffCuts_holds : Rows.CutoffCutsSaid := cutoffCuts.proved
end Go.Proofs.Ytedhbknblmfgeaa

