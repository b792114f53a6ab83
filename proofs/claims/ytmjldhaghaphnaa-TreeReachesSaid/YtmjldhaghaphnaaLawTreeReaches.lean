/- What is proved: 'TreeReaches', as it is said: the frame about the walk. No condition. -/
import Derived.Test.YtmjldhaghaphnaaRows
import Derived.Test.YtmjldhaghaphnaaX6
import Derived.WalkKit
import Derived.ProofKit
import Derived.OpenShut
import Derived.ShutString
import Derived.ChangeOld
import Derived.Carry
import Derived.Below
import Derived.SizedLaws
namespace Go.Proofs.Ytmjldhaghaphnaa.treeReaches
open Go.ChangeShapes Go.WideShapes Go.ChangeAt Go.RowKit
open Go.ChangeMaps (open_string shut_string)
set_option linter.unusedVariables false
theorem own : ownKnob Try.prog.godebug = none := by kernel_rfl
theorem laidOut : laidOutB Try.prog = true := by kernel_rfl
set_option maxRecDepth 100000 in
theorem lifted (os : Os) (started : os.Started) (H : Type) (enc : TypeId × Value → H) :
    ReturnsInHanded {} Try.checked os 3 .any (Rows.treeReachesSpec.pre6 enc Try.prog Try.f3 Rows.treeReachesRow.domain false) (Rows.treeReachesSpec.post enc Try.prog Try.f3 false true false false) := by
  refine returnsInHanded_of_change_sized (C := Try.checked) own started (by kernel_rfl) Try.func3
    (ChangeSpec.witness6 (enc := enc) (C := Try.checked) false ⟨#[], #[.int .i64 0, .slice none 0 0, .int .i64 0, .int .i64 0, .int .i64 0], []⟩ 8 (by kernel_rfl) (by kernel_rfl) (by kernel_rfl) (by kernel_rfl)) ?_
  intro W base args ds gs before hval0 hW hcnd hsz0 _
  have hsz : (DataW.weightsEach Try.prog (Try.f3.params.toList ++ Rows.treeReachesSpec.plain.varTypes Try.prog) (ds ++ gs)).all (· ≤ reachBytes) = true := hsz0
  have hval : ∀ (j : Nat) t v, Try.f3.params[j]? = some t → args[j]? = some v → Value.okWide Try.prog W .any base t v := hval0
  have hW' := hW
  obtain ⟨p, q, hA0, hV, rfl, hfz, hnd⟩ := hW
  have hA : DataW.TrodAll enc Try.prog W 0 (fun _ => true) true Try.f3.params.toList args.toList ds p := hA0
  rw [Try.params3] at hA hval hsz
  obtain ⟨v0, vs0, d0, ds0, p0, q0, hargs, rfl, rfl, h0, r0⟩ := trodAll_cons hA
  obtain ⟨v1, vs1, d1, ds1, p1, q1, rfl, rfl, rfl, h1, r1⟩ := trodAll_cons r0
  obtain ⟨v2, vs2, d2, ds2, p2, q2, rfl, rfl, rfl, h2, r2⟩ := trodAll_cons r1
  obtain ⟨v3, vs3, d3, ds3, p3, q3, rfl, rfl, rfl, h3, r3⟩ := trodAll_cons r2
  obtain ⟨v4, vs4, d4, ds4, p4, q4, rfl, rfl, rfl, h4, r4⟩ := trodAll_cons r3
  obtain ⟨rfl, rfl, rfl⟩ := trodAll_nil r4
  obtain rfl : args = #[v0, v1, v2, v3, v4] := by cases args; simp_all
  obtain ⟨rfl, rfl⟩ := trodVars_none hV
  have hlt : ∀ x ∈ p0 ++ (p1 ++ (p2 ++ (p3 ++ (p4 ++ [])))), x.block < W.heap.size := fun x hx => by simpa using hW'.lt x (by simpa using hx)
  obtain ⟨a0, rfl, rfl, rfl, w0⟩ := open_int Try.underlying3 (hval 0 3 v0 rfl rfl) h0
  obtain ⟨a2, rfl, rfl, rfl, w2⟩ := open_int Try.underlying3 (hval 2 3 v2 rfl rfl) h2
  obtain ⟨a3, rfl, rfl, rfl, w3⟩ := open_int Try.underlying3 (hval 3 3 v3 rfl rfl) h3
  obtain ⟨a4, rfl, rfl, rfl, w4⟩ := open_int Try.underlying3 (hval 4 3 v4 rfl rfl) h4
  have S : Go.Vm.Sim W.heap.size W (fun _ => none) Go.Vm.Heap.empty W := Go.Vm.sim_empty W
  have R : Go.Vm.LR (fun _ => none) [] [] := Go.Vm.LR.nil'
  have R := R.snoc (Go.Vm.VR.ground _ (show Go.Vm.ground (.int .i64 a0) = true from rfl))
  obtain ⟨x1, o1, L1, fa1, S, le1, vr1⟩ := S.flat Try.underlying22 (by rw [show Try.prog.cellsOf 3 = 1 by kernel_rfl]; decide) (Go.Vm.trod_isInt Try.underlying3) (fun cs h => Go.Vm.ints_ground h) (hval 1 22 v1 rfl rfl) h1
  have R := (R.mono' le1).snoc vr1
  rw [show Try.prog.cellsOf 3 = 1 by kernel_rfl] at fa1
  have R := R.snoc (Go.Vm.VR.ground _ (show Go.Vm.ground (.int .i64 a2) = true from rfl))
  have R := R.snoc (Go.Vm.VR.ground _ (show Go.Vm.ground (.int .i64 a3) = true from rfl))
  have R := R.snoc (Go.Vm.VR.ground _ (show Go.Vm.ground (.int .i64 a4) = true from rfl))
  refine (Go.Vm.calls_true (by kernel_rfl) Try.func3 rfl (Go.Vm.Ring.reaches_walk a0 w0 x1 o1 fa1 a2 w2 a3 w3 a4 w4) Go.Vm.Tree.E0_ok S R).mono fun e W' ⟨he, bel⟩ => ?_
  subst he
  exact ⟨_, rfl, _, _, _, [], _, [], hW', trodAll_mk1 (shut_bool Try.underlying4 _), (trodAll_cons_mk (shut_int Try.underlying3 w0) (trodAll_cons_mk (Below.trod laidOut (by kernel_rfl) (of_decide_eq_true (by kernel_rfl)) h1 bel (fun x hx => hlt x (by simp [hx]))) (trodAll_cons_mk (shut_int Try.underlying3 w2) (trodAll_cons_mk (shut_int Try.underlying3 w3) (trodAll_cons_mk (shut_int Try.underlying3 w4) trodAll_mk0))))), rfl, bel.frame _, fun h => by cases h⟩
theorem over : Rows.treeReachesRow.holds Try.pinned (OpenSpec.ofChange Rows.treeReachesSpec) :=
  OpenClaim.holds_of_wide 3 Try.f3 rfl rfl rfl rfl rfl rfl rfl ⟨rfl, rfl, rfl, rfl, rfl⟩ rfl rfl rfl rfl rfl (by kernel_rfl) Try.func3 (by kernel_rfl)
    (of_decide_eq_true (by kernel_rfl)) (by unfold Func.isWrapper; first | (rw [if_pos (by decide +kernel)]; kernel_rfl) | (rw [if_neg (by decide +kernel)]; exact ⟨rfl, rfl⟩))
    (fun os started H enc _ => lifted os started H enc)
theorem proved : Rows.TreeReachesSaid := over
end Go.Proofs.Ytmjldhaghaphnaa.treeReaches
namespace Go.Proofs.Ytmjldhaghaphnaa
theorem treeReaches_holds : Rows.TreeReachesSaid := treeReaches.proved
end Go.Proofs.Ytmjldhaghaphnaa
