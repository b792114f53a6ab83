/- What is proved: 'TypingAll', as it is said: the frame about the walk. No condition. -/
import Derived.Test.YtbjcfdopkaekjaaRows
import Derived.Test.YtbjcfdopkaekjaaPk7
import Derived.WalkKit
import Derived.ProofKit
import Derived.OpenShut
import Derived.ShutString
import Derived.ChangeOld
import Derived.Carry
import Derived.Below
import Derived.SizedLaws
namespace Go.Proofs.Ytbjcfdopkaekjaa.typingAll
open Go.ChangeShapes Go.WideShapes Go.ChangeAt Go.RowKit
open Go.ChangeMaps (open_string shut_string)
set_option linter.unusedVariables false
theorem own : ownKnob Try.prog.godebug = none := by kernel_rfl
theorem laidOut : laidOutB Try.prog = true := by kernel_rfl
set_option maxRecDepth 100000 in
theorem lifted (os : Os) (started : os.Started) (H : Type) (enc : TypeId × Value → H) :
    ReturnsInHanded {} Try.checked os 4 .any (Rows.typingAllSpec.pre6 enc Try.prog Try.f4 Rows.typingAllRow.domain false) (Rows.typingAllSpec.post enc Try.prog Try.f4 false true false false) := by
  refine returnsInHanded_of_change_sized (C := Try.checked) own started (by kernel_rfl) Try.func4
    (ChangeSpec.witness6 (enc := enc) (C := Try.checked) false ⟨#[], #[.slice none 0 0], []⟩ 8 (by kernel_rfl) (by kernel_rfl) (by kernel_rfl) (by kernel_rfl)) ?_
  intro W base args ds gs before hval0 hW hcnd hsz0 _
  have hsz : (DataW.weightsEach Try.prog (Try.f4.params.toList ++ Rows.typingAllSpec.plain.varTypes Try.prog) (ds ++ gs)).all (· ≤ reachBytes) = true := hsz0
  have hval : ∀ (j : Nat) t v, Try.f4.params[j]? = some t → args[j]? = some v → Value.okWide Try.prog W .any base t v := hval0
  have hW' := hW
  obtain ⟨p, q, hA0, hV, rfl, hfz, hnd⟩ := hW
  have hA : DataW.TrodAll enc Try.prog W 0 (fun _ => true) true Try.f4.params.toList args.toList ds p := hA0
  rw [Try.params4] at hA hval hsz
  obtain ⟨v0, vs0, d0, ds0, p0, q0, hargs, rfl, rfl, h0, r0⟩ := trodAll_cons hA
  obtain ⟨rfl, rfl, rfl⟩ := trodAll_nil r0
  obtain rfl : args = #[v0] := by cases args; simp_all
  obtain ⟨rfl, rfl⟩ := trodVars_none hV
  have hlt : ∀ x ∈ p0 ++ [], x.block < W.heap.size := fun x hx => by simpa using hW'.lt x (by simpa using hx)
  have S : Go.Vm.Sim W.heap.size W (fun _ => none) Go.Vm.Heap.empty W := Go.Vm.sim_empty W
  have R : Go.Vm.LR (fun _ => none) [] [] := Go.Vm.LR.nil'
  obtain ⟨x0, o0, L0, fa0, S, le0, vr0⟩ := S.flat Try.underlying22 (by rw [show Try.prog.cellsOf 5 = 1 by kernel_rfl]; decide) (Go.Vm.trod_isInt Try.underlying5) (fun cs h => Go.Vm.ints_ground h) (hval 0 22 v0 rfl rfl) h0
  have R := (R.mono' le0).snoc vr0
  rw [show Try.prog.cellsOf 5 = 1 by kernel_rfl] at fa0
  refine (Go.Vm.calls_true (by kernel_rfl) Try.func4 rfl (Go.Vm.Typing.all_walk x0 o0 fa0) Go.Vm.Typing.E0_ok S R).mono fun e W' ⟨he, bel⟩ => ?_
  subst he
  exact ⟨_, rfl, _, _, _, [], _, [], hW', trodAll_mk1 (shut_bool Try.underlying4 _), (trodAll_cons_mk (Below.trod laidOut (by kernel_rfl) (of_decide_eq_true (by kernel_rfl)) h0 bel (fun x hx => hlt x (by simp [hx]))) trodAll_mk0), rfl, bel.frame _, fun h => by cases h⟩
theorem over : Rows.typingAllRow.holds Try.pinned (OpenSpec.ofChange Rows.typingAllSpec) :=
  OpenClaim.holds_of_wide 4 Try.f4 rfl rfl rfl rfl rfl rfl rfl ⟨rfl, rfl, rfl, rfl, rfl⟩ rfl rfl rfl rfl rfl (by kernel_rfl) Try.func4 (by kernel_rfl)
    (of_decide_eq_true (by kernel_rfl)) (by unfold Func.isWrapper; first | (rw [if_pos (by decide +kernel)]; kernel_rfl) | (rw [if_neg (by decide +kernel)]; exact ⟨rfl, rfl⟩))
    (fun os started H enc _ => lifted os started H enc)
theorem proved : Rows.TypingAllSaid := over
end Go.Proofs.Ytbjcfdopkaekjaa.typingAll
namespace Go.Proofs.Ytbjcfdopkaekjaa
theorem typingAll_holds : Rows.TypingAllSaid := typingAll.proved
end Go.Proofs.Ytbjcfdopkaekjaa
