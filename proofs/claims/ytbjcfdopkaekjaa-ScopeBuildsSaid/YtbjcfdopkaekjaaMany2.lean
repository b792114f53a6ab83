/- What is proved: 'Within' of 0 and 3. -/
import Derived.Test.YtbjcfdopkaekjaaScope26
import Derived.Test.YtbjcfdopkaekjaaTab7
import Derived.Test.YtbjcfdopkaekjaaParse20
namespace Go.Vm.Scope
open Go Go.Proofs Go.Vm.Parse Go.Vm.ScopeLaw
set_option maxRecDepth 100000
set_option maxHeartbeats 1000000
set_option linter.unusedSimpArgs false
set_option linter.unusedVariables false
attribute [local simp] repCells_succ writeAt rd_Fr toList_beq gpe gpn spe gse gsn ne_r0 ne_l0 le_s0 ne_r1 ne_l1 lt_s1 le_s1 ne_r2 ne_l2 lt_s2 le_s2 ne_r3 ne_l3 lt_s3 le_s3 ne_r4 ne_l4 lt_s4 le_s4 ne_r5 ne_l5 lt_s5 le_s5 ne_r6 ne_l6 lt_s6 le_s6 ne_r7 ne_l7 lt_s7 le_s7
theorem plain_E1 : Plain E1 := ⟨fun f h1 _ => by
  simp only [E1, pureHooks]
  split
  · cases h1
  · rfl⟩
theorem bin_rem4 (ty : TypeId) (x y : Operand) (a : Int) : exBin Try.prog .rem ty x y (.int .i64 a) (.int .i64 4) = some (.int .i64 (a.tmod 4)) := bin_rem ty x y .i64 a 4 (by decide)
theorem c_within (args : List Value) (H : Heap) : (run Try.prog E1).call 10 args H = callB Try.prog E1 Try.f10 args H := call_B Try.func10 rfl (by decide +kernel) rfl args H
theorem within_run (x : Int) (hx : Lit.wf (.int .i64 x) = true) (H : Heap) : ∃ k : Nat, k ≤ 3 ∧ (run Try.prog E1).call 10 [.int .i64 x, .int .i64 0, .int .i64 3] H = some (.val (.int .i64 k), H) := by
  suffices key : Gives ((run Try.prog E1).call 10 [.int .i64 x, .int .i64 0, .int .i64 3] H) fun o H' => ∃ k : Nat, k ≤ 3 ∧ o = .val (.int .i64 k) ∧ H' = H by
    obtain ⟨o, H', e, k, hk, rfl, rfl⟩ := key
    exact ⟨k, hk, e⟩
  rw [c_within, callB, bodyOf]
  have w1 : IntKind.i64.wrap 3 = 3 := wrap64 3 (by omega) (by omega)
  have w2 : IntKind.i64.wrap 4 = 4 := wrap64 4 (by omega) (by omega)
  have hb : -4 < x.tmod 4 ∧ x.tmod 4 < 4 := by
    have h1 := Int.tmod_lt_of_pos x (show (0 : Int) < 4 by omega)
    have h2 := Int.neg_tmod x 4
    have h3 := Int.tmod_lt_of_pos (-x) (show (0 : Int) < 4 by omega)
    omega
  have hr := fun ty a b => bin_rem4 ty a b x
  generalize x.tmod 4 = y at hb hr
  by_cases hy : y < 0
  · have w3 : IntKind.i64.wrap (y + 3) = y + 3 := wrap64 _ (by omega) (by omega)
    have w4 : IntKind.i64.wrap (y + 3 + 1) = y + 3 + 1 := wrap64 _ (by omega) (by omega)
    simp [Try.f10, w1, w2, hr, hy, w3, w4]
    exact ⟨(y + 4).toNat, by omega, by omega⟩
  · have w3 : IntKind.i64.wrap y = y := wrap64 _ (by omega) (by omega)
    simp [Try.f10, w1, w2, hr, hy, w3]
    exact ⟨y.toNat, by omega, by omega⟩
end Go.Vm.Scope
