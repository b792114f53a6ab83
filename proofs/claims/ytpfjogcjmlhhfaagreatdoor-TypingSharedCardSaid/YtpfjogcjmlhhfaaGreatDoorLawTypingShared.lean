/- What is proved: 'TypingShared', as it is said: the frame about the walk. No condition. -/
import Derived.Test.YtpfjogcjmlhhfaaGreatDoorRows
import Derived.Test.YtpfjogcjmlhhfaaGreatDoorCards
import Derived.Test.YtpfjogcjmlhhfaaGreatDoorTie
import Derived.Test.YtpfjogcjmlhhfaaGreatDoorX7
import Derived.WalkKit
import Derived.ProofKit
import Derived.OpenShut
import Derived.ShutString
import Derived.ChangeOld
import Derived.Carry
import Derived.Below
import Derived.SizedLaws
import Derived.LaidMore
import Derived.Stop.Joined
import Derived.SevenTiedAt
namespace Go.Proofs.YtpfjogcjmlhhfaaGreatDoor.typingShared
open Go.ChangeShapes Go.WideShapes Go.ChangeAt Go.RowKit
open Go.ChangeMaps (open_string shut_string)
set_option linter.unusedVariables false
theorem own : ownKnob Tryz.prog.godebug = none := by kernel_rfl
theorem laidOut : laidOutB Tryz.prog = true := by kernel_rfl
theorem door_met (os : Os) (args : Array Value) : laidMetH Tryz.prog Rows.typingSharedRow.laid ((World.doorLaid Tryz.prog 400 os).forCall (fun _ _ => 0) ⟨#[], args, []⟩).memory :=
  laidMetH_of_parts3 (fuel := 8) (laidMet_of_run' 8 (by kernel_rfl) (by kernel_rfl)) (by kernel_rfl) (by kernel_rfl)
set_option maxRecDepth 100000 in
theorem lifted (os : Os) (started : os.Started) (H : Type) (enc : TypeId × Value → H) :
    ReturnsInHanded {} Tryz.checked os 3 .any (fun w args => (Rows.typingSharedSpec.pre enc Tryz.prog Tryz.f3 Rows.typingSharedRow.domain false w args ∧ laidMetH Tryz.prog Rows.typingSharedRow.laid w) ∧ sizedMet enc Tryz.prog Tryz.f3 (OpenSpec.ofChange Rows.typingSharedSpec) false w args) (Rows.typingSharedSpec.post enc Tryz.prog Tryz.f3 false true false false) := by
  refine returnsInHanded_of_change_and (C := Tryz.checked) (X := fun w _ => laidMetH Tryz.prog Rows.typingSharedRow.laid w) (fun _ _ _ hh h => h.of_heap hh) own started (by kernel_rfl) Tryz.func3
    (ChangeSpec.witness_shaped (enc := enc) (C := Tryz.checked) (os := os) (X := fun w _ => laidMetH Tryz.prog Rows.typingSharedRow.laid w) false (World.doorLaid Tryz.prog 400 os) #[.slice none 0 0, .int .i64 0, .int .i64 0] 8 rfl (World.shaped_of_RefB (by kernel_rfl) (by kernel_rfl)) (by kernel_rfl) (by kernel_rfl) (by kernel_rfl) (door_met os _)) ?_
  intro W base args ds gs before hval0 hW hcnd hsz0 hL _
  have hsz : (DataW.weightsEach Tryz.prog (Tryz.f3.params.toList ++ Rows.typingSharedSpec.plain.varTypes Tryz.prog) (ds ++ gs)).all (· ≤ reachBytes) = true := hsz0
  have hval : ∀ (j : Nat) t v, Tryz.f3.params[j]? = some t → args[j]? = some v → Value.okWide Tryz.prog W .any base t v := hval0
  have hW' := hW
  obtain ⟨p, q, hA0, hV, rfl, hfz, hnd⟩ := hW
  have hA : DataW.TrodAll enc Tryz.prog W 0 (fun _ => true) true Tryz.f3.params.toList args.toList ds p := hA0
  rw [Tryz.params3] at hA hval hsz
  obtain ⟨v0, vs0, d0, ds0, p0, q0, hargs, rfl, rfl, h0, r0⟩ := trodAll_cons hA
  obtain ⟨v1, vs1, d1, ds1, p1, q1, rfl, rfl, rfl, h1, r1⟩ := trodAll_cons r0
  obtain ⟨v2, vs2, d2, ds2, p2, q2, rfl, rfl, rfl, h2, r2⟩ := trodAll_cons r1
  obtain ⟨rfl, rfl, rfl⟩ := trodAll_nil r2
  obtain rfl : args = #[v0, v1, v2] := by cases args; simp_all
  obtain ⟨rfl, rfl⟩ := trodVars_none hV
  have hlt : ∀ x ∈ p0 ++ (p1 ++ (p2 ++ [])), x.block < W.heap.size := fun x hx => by simpa using hW'.lt x (by simpa using hx)
  obtain ⟨a1, rfl, rfl, rfl, w1⟩ := open_int Tryz.underlying3 (hval 1 3 v1 rfl rfl) h1
  obtain ⟨a2, rfl, rfl, rfl, w2⟩ := open_int Tryz.underlying3 (hval 2 3 v2 rfl rfl) h2
  have S : Go.Vm.Sim W.heap.size W (fun _ => none) Go.Vm.Heap.empty W := Go.Vm.sim_empty W
  have R : Go.Vm.LR (fun _ => none) [] [] := Go.Vm.LR.nil'
  obtain ⟨x0, o0, L0, fa0, S, le0, vr0⟩ := S.flat Tryz.underlying22 (by rw [show Tryz.prog.cellsOf 3 = 1 by kernel_rfl]; decide) (Go.Vm.trod_isInt Tryz.underlying3) (fun cs h => Go.Vm.ints_ground h) (hval 0 22 v0 rfl rfl) h0
  have R := (R.mono' le0).snoc vr0
  rw [show Tryz.prog.cellsOf 3 = 1 by kernel_rfl] at fa0
  have R := R.snoc (Go.Vm.VR.ground _ (show Go.Vm.ground (.int .i64 a1) = true from rfl))
  have R := R.snoc (Go.Vm.VR.ground _ (show Go.Vm.ground (.int .i64 a2) = true from rfl))
  refine (Go.Vm.calls_true (by kernel_rfl) Tryz.func3 rfl (Go.Vm.Typing.shared27_walk x0 o0 fa0 a1 w1 a2 w2) Go.Vm.Typing.E0_ok S R).mono fun e W' ⟨he, bel⟩ => ?_
  subst he
  exact ⟨_, rfl, _, _, _, [], _, [], hW', trodAll_mk1 (shut_bool Tryz.underlying4 _), (trodAll_cons_mk (Below.trod laidOut (by kernel_rfl) (of_decide_eq_true (by kernel_rfl)) h0 bel (fun x hx => hlt x (by simp [hx]))) (trodAll_cons_mk (shut_int Tryz.underlying3 w1) (trodAll_cons_mk (shut_int Tryz.underlying3 w2) trodAll_mk0))), rfl, bel.frame _, fun h => by cases h⟩
theorem over : Rows.typingSharedRow.holds Tryz.pinned (OpenSpec.ofChange Rows.typingSharedSpec) :=
  OpenClaim.holds_of_wide 3 Tryz.f3 rfl rfl rfl rfl rfl rfl rfl ⟨rfl, rfl, rfl, rfl, rfl⟩ rfl rfl rfl rfl rfl (by kernel_rfl) Tryz.func3 (by kernel_rfl)
    (of_decide_eq_true (by kernel_rfl)) (by unfold Func.isWrapper; first | (rw [if_pos (by decide +kernel)]; kernel_rfl) | (rw [if_neg (by decide +kernel)]; exact ⟨rfl, rfl⟩))
    (fun os started H enc _ => lifted os started H enc)
theorem proved : Rows.TypingSharedCardSaid :=
  Claim7.holds_tied_plain_at .later [] [.data, .data, .data] true (true, "da708664d7626e8f15d7cd86a9908ab615d0277fe87d0b97f32a45e536013723") true
    over (fun _ h => by cases h) (by kernel_rfl) (fun _ h => by cases h) typingShared_row_tie rfl ⟨rfl, rfl⟩ (by kernel_rfl) rfl
    (fun f fn hf hfn => by
      obtain rfl : f = 3 := Option.some.inj ((show Tryz.prog.funcNamed Rows.typingSharedRow.func = some 3 by kernel_rfl).symm.trans hf) |>.symm
      obtain rfl : fn = Tryz.f3 := (Option.some.inj (Tryz.func3.symm.trans hfn)).symm
      exact ⟨by kernel_rfl, fun j t ht => by
        rw [Tryz.params3] at ht
        have h : t = 22 ∨ t = 3 := by
          rcases j with _ | _ | _ | j
          all_goals first | exact .inl (by simpa using ht.symm) | exact .inr (by simpa using ht.symm) | exact .inr (.inl (by simpa using ht.symm)) | exact .inr (.inr (by simpa using ht.symm)) | (exfalso; simp at ht; done) | (simpa using ht.symm)
        rcases h with rfl | rfl
        all_goals exact (show Tryz.prog.wantsStandIn _ = false by kernel_rfl)⟩)
    (by kernel_rfl)
end Go.Proofs.YtpfjogcjmlhhfaaGreatDoor.typingShared
namespace Go.Proofs.YtpfjogcjmlhhfaaGreatDoor
theorem typingShared_holds : Rows.TypingSharedCardSaid := typingShared.proved
end Go.Proofs.YtpfjogcjmlhhfaaGreatDoor
