/- What is proved: 'ExprMade', as it is said: the frame about the walk. No condition. -/
import Derived.Test.YtmojliogiiembaaDoorRows
import Derived.Test.YtmojliogiiembaaDoorCards
import Derived.Test.YtmojliogiiembaaDoorTie
import Derived.Test.YtmojliogiiembaaDoorY6
import Derived.WalkKit
import Derived.ProofKit
import Derived.OpenShut
import Derived.ShutString
import Derived.ChangeOld
import Derived.Carry
import Derived.Below
import Derived.SizedLaws
import Derived.LaidMore
import Derived.Stop.Joined
import Derived.SevenTiedAt
namespace Go.Proofs.YtmojliogiiembaaDoor.exprMade
open Go.ChangeShapes Go.WideShapes Go.ChangeAt Go.RowKit
open Go.ChangeMaps (open_string shut_string)
set_option linter.unusedVariables false
theorem own : ownKnob Tryd.prog.godebug = none := by kernel_rfl
theorem laidOut : laidOutB Tryd.prog = true := by kernel_rfl
theorem door_met (os : Os) (args : Array Value) : laidMetH Tryd.prog Rows.exprMadeRow.laid ((World.doorLaid Tryd.prog 400 os).forCall (fun _ _ => 0) ⟨#[], args, []⟩).memory :=
  laidMetH_of_parts3 (fuel := 8) (laidMet_of_run' 8 (by kernel_rfl) (by kernel_rfl)) (by kernel_rfl) (by kernel_rfl)
set_option maxRecDepth 100000 in
theorem lifted (os : Os) (started : os.Started) (H : Type) (enc : TypeId × Value → H) :
    ReturnsInHanded {} Tryd.checked os 3 .any (fun w args => (Rows.exprMadeSpec.pre enc Tryd.prog Tryd.f3 Rows.exprMadeRow.domain false w args ∧ laidMetH Tryd.prog Rows.exprMadeRow.laid w) ∧ sizedMet enc Tryd.prog Tryd.f3 (OpenSpec.ofChange Rows.exprMadeSpec) false w args) (Rows.exprMadeSpec.post enc Tryd.prog Tryd.f3 false true false false) := by
  refine returnsInHanded_of_change_and (C := Tryd.checked) (X := fun w _ => laidMetH Tryd.prog Rows.exprMadeRow.laid w) (fun _ _ _ hh h => h.of_heap hh) own started (by kernel_rfl) Tryd.func3
    (ChangeSpec.witness_shaped (enc := enc) (C := Tryd.checked) (os := os) (X := fun w _ => laidMetH Tryd.prog Rows.exprMadeRow.laid w) false (World.doorLaid Tryd.prog 400 os) #[.slice none 0 0, .slice none 0 0, .int .i64 0, .int .i64 0, .int .i64 0] 8 rfl (World.shaped_of_RefB (by kernel_rfl) (by kernel_rfl)) (by kernel_rfl) (by kernel_rfl) (by kernel_rfl) (door_met os _)) ?_
  intro W base args ds gs before hval0 hW hcnd hsz0 hL _
  have hsz : (DataW.weightsEach Tryd.prog (Tryd.f3.params.toList ++ Rows.exprMadeSpec.plain.varTypes Tryd.prog) (ds ++ gs)).all (· ≤ reachBytes) = true := hsz0
  have hval : ∀ (j : Nat) t v, Tryd.f3.params[j]? = some t → args[j]? = some v → Value.okWide Tryd.prog W .any base t v := hval0
  have hW' := hW
  obtain ⟨p, q, hA0, hV, rfl, hfz, hnd⟩ := hW
  have hA : DataW.TrodAll enc Tryd.prog W 0 (fun _ => true) true Tryd.f3.params.toList args.toList ds p := hA0
  rw [Tryd.params3] at hA hval hsz
  obtain ⟨v0, vs0, d0, ds0, p0, q0, hargs, rfl, rfl, h0, r0⟩ := trodAll_cons hA
  obtain ⟨v1, vs1, d1, ds1, p1, q1, rfl, rfl, rfl, h1, r1⟩ := trodAll_cons r0
  obtain ⟨v2, vs2, d2, ds2, p2, q2, rfl, rfl, rfl, h2, r2⟩ := trodAll_cons r1
  obtain ⟨v3, vs3, d3, ds3, p3, q3, rfl, rfl, rfl, h3, r3⟩ := trodAll_cons r2
  obtain ⟨v4, vs4, d4, ds4, p4, q4, rfl, rfl, rfl, h4, r4⟩ := trodAll_cons r3
  obtain ⟨rfl, rfl, rfl⟩ := trodAll_nil r4
  obtain rfl : args = #[v0, v1, v2, v3, v4] := by cases args; simp_all
  obtain ⟨rfl, rfl⟩ := trodVars_none hV
  have hlt : ∀ x ∈ p0 ++ (p1 ++ (p2 ++ (p3 ++ (p4 ++ [])))), x.block < W.heap.size := fun x hx => by simpa using hW'.lt x (by simpa using hx)
  obtain ⟨a2, rfl, rfl, rfl, w2⟩ := open_int Tryd.underlying3 (hval 2 3 v2 rfl rfl) h2
  obtain ⟨a3, rfl, rfl, rfl, w3⟩ := open_int Tryd.underlying3 (hval 3 3 v3 rfl rfl) h3
  obtain ⟨a4, rfl, rfl, rfl, w4⟩ := open_int Tryd.underlying3 (hval 4 3 v4 rfl rfl) h4
  have S : Go.Vm.Sim W.heap.size W (fun _ => none) Go.Vm.Heap.empty W := Go.Vm.sim_empty W
  have R : Go.Vm.LR (fun _ => none) [] [] := Go.Vm.LR.nil'
  obtain ⟨x0, o0, L0, fa0, S, le0, vr0⟩ := S.flat Tryd.underlying22 (by rw [show Tryd.prog.cellsOf 3 = 1 by kernel_rfl]; decide) (Go.Vm.trod_isInt Tryd.underlying3) (fun cs h => Go.Vm.ints_ground h) (hval 0 22 v0 rfl rfl) h0
  have R := (R.mono' le0).snoc vr0
  rw [show Tryd.prog.cellsOf 3 = 1 by kernel_rfl] at fa0
  obtain ⟨x1, o1, L1, fa1, S, le1, vr1⟩ := S.flat Tryd.underlying23 (by rw [show Tryd.prog.cellsOf 5 = 1 by kernel_rfl]; decide) (Go.Vm.trod_isInt Tryd.underlying5) (fun cs h => Go.Vm.ints_ground h) (hval 1 23 v1 rfl rfl) h1
  have R := (R.mono' le1).snoc vr1
  rw [show Tryd.prog.cellsOf 5 = 1 by kernel_rfl] at fa1
  have R := R.snoc (Go.Vm.VR.ground _ (show Go.Vm.ground (.int .i64 a2) = true from rfl))
  have R := R.snoc (Go.Vm.VR.ground _ (show Go.Vm.ground (.int .i64 a3) = true from rfl))
  have R := R.snoc (Go.Vm.VR.ground _ (show Go.Vm.ground (.int .i64 a4) = true from rfl))
  refine (Go.Vm.calls_true (by kernel_rfl) Tryd.func3 rfl (Go.Vm.Ex.exprmade_walk x0 o0 fa0 x1 o1 fa1 a2 w2 a3 w3 a4 w4) Go.Vm.ExprLaw.E1_ok S R).mono fun e W' ⟨he, bel⟩ => ?_
  subst he
  exact ⟨_, rfl, _, _, _, [], _, [], hW', trodAll_mk1 (shut_bool Tryd.underlying4 _), (trodAll_cons_mk (Below.trod laidOut (by kernel_rfl) (of_decide_eq_true (by kernel_rfl)) h0 bel (fun x hx => hlt x (by simp [hx]))) (trodAll_cons_mk (Below.trod laidOut (by kernel_rfl) (of_decide_eq_true (by kernel_rfl)) h1 bel (fun x hx => hlt x (by simp [hx]))) (trodAll_cons_mk (shut_int Tryd.underlying3 w2) (trodAll_cons_mk (shut_int Tryd.underlying3 w3) (trodAll_cons_mk (shut_int Tryd.underlying3 w4) trodAll_mk0))))), rfl, bel.frame _, fun h => by cases h⟩
theorem over : Rows.exprMadeRow.holds Tryd.pinned (OpenSpec.ofChange Rows.exprMadeSpec) :=
  OpenClaim.holds_of_wide 3 Tryd.f3 rfl rfl rfl rfl rfl rfl rfl ⟨rfl, rfl, rfl, rfl, rfl⟩ rfl rfl rfl rfl rfl (by kernel_rfl) Tryd.func3 (by kernel_rfl)
    (of_decide_eq_true (by kernel_rfl)) (by unfold Func.isWrapper; first | (rw [if_pos (by decide +kernel)]; kernel_rfl) | (rw [if_neg (by decide +kernel)]; exact ⟨rfl, rfl⟩))
    (fun os started H enc _ => lifted os started H enc)
theorem proved : Rows.ExprMadeCardSaid :=
  Claim7.holds_tied_plain_at .later [] [.data, .data, .data] true (true, "3522e8f914b91d093a7a3f1053f35e397cf625da81300573104e95116be217bc") false
    over (fun _ h => by cases h) (by kernel_rfl) (fun _ h => by cases h) exprMade_row_tie rfl ⟨rfl, rfl⟩ (by kernel_rfl) rfl
    (fun f fn hf hfn => by
      obtain rfl : f = 3 := Option.some.inj ((show Tryd.prog.funcNamed Rows.exprMadeRow.func = some 3 by kernel_rfl).symm.trans hf) |>.symm
      obtain rfl : fn = Tryd.f3 := (Option.some.inj (Tryd.func3.symm.trans hfn)).symm
      exact ⟨by kernel_rfl, fun j t ht => by
        rw [Tryd.params3] at ht
        have h : t = 22 ∨ t = 23 ∨ t = 3 := by
          rcases j with _ | _ | _ | _ | _ | j
          all_goals first | exact .inl (by simpa using ht.symm) | exact .inr (by simpa using ht.symm) | exact .inr (.inl (by simpa using ht.symm)) | exact .inr (.inr (by simpa using ht.symm)) | (exfalso; simp at ht; done) | (simpa using ht.symm)
        rcases h with rfl | rfl | rfl
        all_goals exact (show Tryd.prog.wantsStandIn _ = false by kernel_rfl)⟩)
    (by kernel_rfl)
end Go.Proofs.YtmojliogiiembaaDoor.exprMade
namespace Go.Proofs.YtmojliogiiembaaDoor
theorem exprMade_holds : Rows.ExprMadeCardSaid := exprMade.proved
end Go.Proofs.YtmojliogiiembaaDoor
