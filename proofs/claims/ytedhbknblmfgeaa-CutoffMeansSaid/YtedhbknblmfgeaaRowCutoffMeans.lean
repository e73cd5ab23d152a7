/-
  For every input the law CutoffMeans returns true, and its input reads behind the call as it read before: no further condition.
-/
import Derived.Test.YtedhbknblmfgeaaRows
import Derived.Test.YtedhbknblmfgeaaPCutoffMeansa
import Derived.Test.YtedhbknblmfgeaaLCutoffMeansb
import Derived.WalkKit
import Derived.ProofKit
import Derived.OpenShut
import Derived.ShutString
import Derived.ChangeOld
import Derived.Below
import Derived.SizedLaws
set_option linter.all false
namespace Go.Proofs.Ytedhbknblmfgeaa.cutoffMeans
open Go.ChangeShapes Go.WideShapes Go.ChangeAt Go.RowKit
open Go.ChangeMaps (open_string shut_string)
theorem own : ownKnob Try.prog.godebug = none := by kernel_rfl
theorem laidOut : laidOutB Try.prog = true := by kernel_rfl
theorem wf_u8 {n : Int} (h : (Lit.int .u8 n).wf = true) : 0 ≤ n ∧ n ≤ 255 := by
  have h : (decide (IntKind.min .u8 ≤ n) && decide (n ≤ IntKind.max .u8)) = true := h
  rw [Bool.and_eq_true, decide_eq_true_eq, decide_eq_true_eq, show IntKind.min .u8 = 0 from by decide +kernel, show IntKind.max .u8 = 255 from by decide +kernel] at h
  exact h
theorem fit_u8 {z : List Int} (h : V.Ty.fit (.sl (.one (.int .u8))) z) : ∀ n ∈ z, 0 ≤ n ∧ n ≤ 255 := by
  intro n hn
  exact wf_u8 (V.fit_ints h n hn)
theorem walk (a0 : Option Addr) (len0 cap0 : Nat) (z0 : List (V.Row.den (.one (.int .u8)))) (W : World) (w0 : V.ArgRel W (.sl (.one (.int .u8)) z0) (.slice a0 len0 cap0)) (f0 : V.Ty.fit (.sl (.one (.int .u8))) z0) :
    Calls Try.prog 8 #[.slice a0 len0 cap0] W fun e W' => e = .returned (.bool true) ∧ Below W.heap.size W W' := by
  have hT := V.cutoffMeans_ok z0 (fit_u8 f0)
  exact (V.gdlK (z0, ()) (true, ()) hT).law W [.slice a0 len0 cap0] ⟨w0, trivial⟩
set_option maxRecDepth 100000 in
theorem lifted (os : Os) (started : os.Started) (H : Type) (enc : TypeId × Value → H) :
    ReturnsInHanded {} Try.checked os 8 .any (Rows.cutoffMeansSpec.pre6 enc Try.prog Try.f8 Rows.cutoffMeansRow.domain false) (Rows.cutoffMeansSpec.post enc Try.prog Try.f8 false true false false) := by
  refine returnsInHanded_of_change_sized (C := Try.checked) own started (by kernel_rfl) Try.func8
    (ChangeSpec.witness6 (enc := enc) (C := Try.checked) false ⟨#[], #[.slice none 0 0], []⟩ 8 (by kernel_rfl) (by kernel_rfl) (by kernel_rfl) (by kernel_rfl)) ?_
  intro W base args ds gs before hval0 hW hcnd hsz0 _
  have hval : ∀ (j : Nat) t v, Try.f8.params[j]? = some t → args[j]? = some v → Value.okWide Try.prog W .any base t v := hval0
  have hW' := hW
  obtain ⟨p, q, hA0, hV, rfl, hfz, hnd⟩ := hW
  have hA : DataW.TrodAll enc Try.prog W 0 (fun _ => true) true Try.f8.params.toList args.toList ds p := hA0
  rw [Try.params8] at hA hval
  obtain ⟨v0, vs0, d0, ds0, p0, q0, hargs, rfl, rfl, h0, r0⟩ := trodAll_cons hA
  obtain ⟨rfl, rfl, rfl⟩ := trodAll_nil r0
  obtain rfl : args = #[v0] := by cases args; simp_all
  obtain ⟨rfl, rfl⟩ := trodVars_none hV
  obtain ⟨a0, len0, cap0, rfl⟩ := okWide_slice Try.underlying22 (hval 0 22 v0 rfl rfl)
  have k0 := h0
  have lt0 : ∀ x ∈ p0, x.block < W.heap.size := by obtain ⟨m, hm⟩ := k0; exact DataW.trod_lt m _ _ _ hm
  obtain ⟨z0, w0, f0⟩ := V.slice_open (d := 12) (r := (.one (.int .u8))) (by kernel_rfl) h0
  clear hA0 hval0 hsz0
  refine (walk a0 len0 cap0 z0 W w0 f0).mono fun e W' ⟨he, bel⟩ => ?_
  subst he
  exact ⟨_, rfl, _, _, _, [], _, [], hW', trodAll_mk1 (shut_bool Try.underlying4 _), (trodAll_cons_mk (Below.trod laidOut (by kernel_rfl) (of_decide_eq_true (by kernel_rfl)) k0 bel lt0) trodAll_mk0), rfl, bel.frame _, fun h => by cases h⟩
theorem over : Rows.cutoffMeansRow.holds Try.pinned (OpenSpec.ofChange Rows.cutoffMeansSpec) :=
  OpenClaim.holds_of_wide 8 Try.f8 rfl rfl rfl rfl rfl rfl rfl ⟨rfl, rfl, rfl, rfl, rfl⟩ rfl rfl rfl rfl rfl (by kernel_rfl) Try.func8 (by kernel_rfl)
    (of_decide_eq_true (by kernel_rfl)) (by unfold Func.isWrapper; first | (rw [if_pos (by decide +kernel)]; kernel_rfl) | (rw [if_neg (by decide +kernel)]; exact ⟨rfl, rfl⟩))
    (fun os started H enc _ => lifted os started H enc)
theorem proved : Rows.CutoffMeansSaid := over
#print axioms proved
end Go.Proofs.Ytedhbknblmfgeaa.cutoffMeans
namespace Go.Proofs.Ytedhbknblmfgeaa
theorem cutoffMeans_holds : Rows.CutoffMeansSaid := cutoffMeans.proved
end Go.Proofs.Ytedhbknblmfgeaa

