/- What is proved: the reader's 'branch', and with it 'Parse' of any source. -/
import Derived.Test.YtbjcfdopkaekjaaParse20
namespace Go.Vm.Parse
open Go Go.Proofs
set_option maxRecDepth 100000
set_option maxHeartbeats 1000000
set_option linter.unusedSimpArgs false
set_option linter.unusedVariables false
attribute [local simp] repCells_succ writeAt rd_Fr toList_beq gpe gpn spe gse gsn ne_r0 ne_l0 le_s0 ne_r1 ne_l1 lt_s1 le_s1 ne_r2 ne_l2 lt_s2 le_s2 ne_r3 ne_l3 lt_s3 le_s3 ne_r4 ne_l4 lt_s4 le_s4 ne_r5 ne_l5 lt_s5 le_s5 ne_r6 ne_l6 lt_s6 le_s6 ne_r7 ne_l7 lt_s7 le_s7
theorem no_bran : planOf Try.prog (drawN Try.f93 0) = none := by decide +kernel
theorem at_bran : ∃ os, lateAt (drawN Try.f93 0) = some ⟨8, 6, 164, os⟩ ∧ os.op = .store 164 (.tmp 6) (.tmp 16) := ⟨((drawN Try.f93 0)[9]?).getD ⟨none, .move (.tmp 0), 0, "", #[], none⟩, by kernel_rfl, by kernel_rfl⟩
theorem pl_bran : planOf Try.prog (lateA (drawN Try.f93 0)) = some [(some (0, 1)), (some (0, 1)), (some (0, 1)), (some (0, 1)), none, none, none, none, (some (0, 1))] := by decide +kernel
theorem z_bran : zeroT Try.prog 164 = some (.agg ⟨[.int .i64 0, .string ByteArray.empty, nl, nl]⟩) := by kernel_rfl
theorem v_bran (cs : List Value) : varObj Try.prog 164 cs = .row true 0 1 cs := by unfold varObj; simp
def bc4 (a : Int) (x : ByteArray) (v w : Value) : List Value := [.int .i64 a, .string x, v, w]
theorem RB.slices {H : Heap} {S : Nat → Prop} {b : Bra} {cs : List Value} (h : RB H S b cs) : ∃ a x a1 a2 a3 b1 b2 b3, cs = bc4 a x (.slice a1 a2 a3) (.slice b1 b2 b3) := by
  obtain ⟨v, w, rfl, h1, h2⟩ := h
  obtain ⟨b1, rfl⟩ := repEx.G_slice h1
  obtain ⟨b2, rfl⟩ := repItm.G_slice h2
  exact ⟨_, _, _, _, _, _, _, _, rfl⟩
section
variable {E : Hooks} (hE : Plain E) {r lid : Nat} {L : List Tk}
include hE
theorem bran_ok : BranOK E branP r lid L := by
  intro n lv s b s' hx h0 h24 H h
  have hr := h.lt
  have hl := h.lid_lt
  have hsm := h.small
  have aP : At (H.push (.row true 0 1 (bc4 0 ByteArray.empty nl nl))) r lid L s (H.push (.row true 0 1 (bc4 0 ByteArray.empty nl nl))) := ⟨Same.refl _ _, h.same (Same.push _ _ _)⟩
  obtain ⟨HA, eA, kA, hA⟩ := name_run hE aP.rd
  have aA := aP.go kA hA
  have nA := kA.n
  simp at nA
  unfold branP at hx
  simp only [Option.bind_eq_some_iff] at hx
  obtain ⟨⟨a1, s1⟩, hx1, hx2⟩ := hx
  have aB := (aA.push (.row true 0 1 (nameP L s).cells)).push .dead
  obtain ⟨o, HC, eC, v, rfl, kC, hC, gC⟩ := args_run hE h0 h24 hx1 aB.rd
  have aC := aB.go kC hC
  have nC := kC.n
  simp at nC
  obtain ⟨b0, rfl⟩ := repEx.G_slice gC
  have g1 : HC.get (HA.n + 1) = .dead := by
    rw [kC.get _ (by simp) (by omega)]
    exact Heap.get_push_self (HA.push (.row true 0 1 (nameP L s).cells)) .dead
  have g2 : HC.get HA.n = .row true 0 1 (nameP L s).cells := kC.at (by simp) (by simp) (by omega)
  have lC : Loc (H.push (.row true 0 1 (bc4 0 ByteArray.empty nl nl))) r lid L (HA.n + 1) s1 (bc4 (nameP L s).at_ (nameP L s).name (.slice b0 a1.length a1.length) nl) (HC.set (HA.n + 1) (.row true 0 1 (bc4 (nameP L s).at_ (nameP L s).name (.slice b0 a1.length a1.length) nl))) :=
    ⟨aC.set (by simp; omega) (by simp; omega) (by simp; omega) (by omega) _, Heap.get_set_self _ _ (by omega), by show HA.n + 1 < HC.n; omega, by simp; omega, by simp; omega, by simp; omega⟩
  have gX : repEx.G (HC.set (HA.n + 1) (.row true 0 1 (bc4 (nameP L s).at_ (nameP L s).name (.slice b0 a1.length a1.length) nl))) (fun i => HA.n + 1 < i) (.slice b0 a1.length a1.length) a1 :=
    repEx.G_set gC (by omega) (fun j hj => by simp at hj; exact ⟨by omega, by omega⟩) _
  obtain ⟨os, ea, eo⟩ := at_bran
  rw [c_branch hE, callB, bodyOf]
  simp only [Idn.cells, bc4] at eA eC g2 lC gX
  have q1 : HA.n + 1 < HC.n := by omega
  simp [Try.f93, eA]
  refine region_late (by exact no_bran) (by exact ea) (by exact pl_bran) (by exact z_bran) ?_
  simp [lateA, blank, eC, g2]
  rw [exLast_go q1 g1]
  simp [eo, q1, v_bran]
  have gK := lC.get
  have tK := lC.lt
  have t0 : H.n < HC.n := by omega
  by_cases c1 : isP L s1 tClaims = true
  · rw [if_pos c1] at hx2
    simp only [Option.map_eq_some_iff] at hx2
    obtain ⟨⟨l2, s2⟩, hx3, hx4⟩ := hx2
    cases hx4
    obtain ⟨HD, eD, lD, kD⟩ := lC.take_yes hE c1
    obtain ⟨HE, b, m, eE, lE, gE, kE⟩ := lD.items hE hx3
    have gKE := lE.get
    have tKE := lE.lt
    have g0 : HE.get H.n = .row true 0 1 (bc4 0 ByteArray.empty nl nl) := lE.at_.same.at (Heap.get_push_self _ _) (by simp) (by omega)
    have t0E := Heap.lt_of_get g0 (by simp)
    simp only [bc4] at g0
    simp only [tClaims] at eD
    obtain ⟨b3, e3⟩ := repItm.G_slice gE
    cases e3
    simp [eD, eE, gKE, tKE, g0, t0E, show ¬ H.n = HA.n + 1 by omega, show ¬ HA.n + 1 = H.n by omega]
    have lF := lE.put (bc4 (nameP L s).at_ (nameP L s).name (.slice b0 a1.length a1.length) (.slice b l2.length l2.length))
    refine ret_rep repBra hr hl lF.at_ ?_ _
    refine ⟨_, _, rfl, repEx.G_move (Same.refl (fun _ => False) _) (fun i hi _ => ⟨by omega, fun h => h⟩) (lE.fld_put (lD.fld (lC.fld gX kD) kE) _), repItm.G_move (Same.refl (fun _ => False) _) (fun i hi _ => ⟨by omega, fun h => h⟩) (lE.fld_put gE _)⟩
  · rw [if_neg c1] at hx2
    cases hx2
    have c1' : isP L s1 tClaims = false := by simpa using c1
    obtain ⟨HD, eD, lD, kD⟩ := lC.take_no hE c1'
    have gKD := lD.get
    have tKD := lD.lt
    have g0 : HD.get H.n = .row true 0 1 (bc4 0 ByteArray.empty nl nl) := lD.at_.same.at (Heap.get_push_self _ _) (by simp) (by omega)
    have t0D := Heap.lt_of_get g0 (by simp)
    simp only [bc4] at g0
    simp only [tClaims] at eD
    simp [eD, gKD, tKD, g0, t0D, show ¬ H.n = HA.n + 1 by omega, show ¬ HA.n + 1 = H.n by omega]
    refine ret_rep repBra hr hl lD.at_ ?_ _
    exact ⟨_, _, rfl, repEx.G_move (Same.refl (fun _ => False) _) (fun i hi _ => ⟨by omega, fun h => h⟩) (lC.fld gX kD), repItm.G_nil _ _⟩
end
end Go.Vm.Parse
namespace Go.Vm.Parse
open Go Go.Proofs
section
variable {E : Hooks} (hE : Plain E)
include hE
/-- 'Parse', of any source that is no longer than may be. -/
theorem parse_any {H : Heap} {v : Value} {src : List UInt8} (hv : isTuple v = false) (hall : AllOK E H v src) (hsm : src.length ≤ 4096) {n : Nat} {res : Src ⊕ (Int × Int)} (hx : parseP branP src n = some res) :
    Gives ((run Try.prog E).call 13 [v] H) (RetP H res) :=
  parse_walk0 hE (fun L n lv s b s' h => branP_lt h) (fun r lid L => bran_ok hE) hv hall hsm hx
end
end Go.Vm.Parse
