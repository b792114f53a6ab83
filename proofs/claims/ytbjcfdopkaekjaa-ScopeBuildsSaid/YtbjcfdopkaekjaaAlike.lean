/- What is proved: 'signalboxlaw26.same', of tables that agree. -/
import Derived.Test.YtbjcfdopkaekjaaAgree
import Derived.Test.YtbjcfdopkaekjaaFEq
namespace Go.Vm.Scope
open Go Go.Proofs Go.Vm.Parse
set_option maxRecDepth 100000
set_option maxHeartbeats 4000000
set_option linter.unusedSimpArgs false
set_option linter.unusedVariables false
attribute [local simp] repCells_succ writeAt rd_Fr toList_beq gpe gpn spe gse gsn ne_r0 ne_l0 le_s0 ne_r1 ne_l1 lt_s1 le_s1 ne_r2 ne_l2 lt_s2 le_s2 ne_r3 ne_l3 lt_s3 le_s3 ne_r4 ne_l4 lt_s4 le_s4 ne_r5 ne_l5 lt_s5 le_s5 ne_r6 ne_l6 lt_s6 le_s6 ne_r7 ne_l7 lt_s7 le_s7
theorem und_nm : Try.prog.underlying 66 = some (.struct ⟨fsOf 66⟩) := by kernel_rfl
theorem held_nm : Try.prog.stoodInHeld 66 = false := by kernel_rfl
theorem gt_nm : Try.prog.eqGuardType Try.prog.depth 66 = false := by kernel_rfl
theorem fe_nm (a b c a' b' c' : Int) : fieldsEq Try.prog [.int .i64 a, .int .i64 b, .int .i64 c] [.int .i64 a', .int .i64 b', .int .i64 c'] (fsOf 66) = some (decide (a = a') && (decide (b = b') && decide (c = c'))) := by
  have e : fieldsEq Try.prog [.int .i64 a, .int .i64 b, .int .i64 c] [.int .i64 a', .int .i64 b', .int .i64 c'] (fsOf 66) = (match some (decide (a = a')) with | some true => (match some (decide (b = b')) with | some true => (match some (decide (c = c')) with | some true => some true | some false => some false | none => none) | some false => some false | none => none) | some false => some false | none => none) := by kernel_rfl
  rw [e]
  cases decide (a = a') <;> cases decide (b = b') <;> cases decide (c = c') <;> rfl
theorem nm_neq (x y : Operand) (a b c : Int) : exBin Try.prog .neq 66 x y (.agg ⟨[.int .i64 a, .int .i64 b, .int .i64 c]⟩) (.agg ⟨[.int .i64 a, .int .i64 b, .int .i64 c]⟩) = some (.bool false) := by
  have := (bin_struct und_nm held_nm gt_nm rfl rfl (fe_nm a b c a b c) (x := x) (y := y)).2
  simpa using this
theorem und_cel : Try.prog.underlying 73 = some (.struct ⟨fsOf 73⟩) := by kernel_rfl
theorem held_cel : Try.prog.stoodInHeld 73 = false := by kernel_rfl
theorem gt_cel : Try.prog.eqGuardType Try.prog.depth 73 = false := by kernel_rfl
theorem fe_cel (a b c d : Int) : fieldsEq Try.prog [.int .i64 a, .int .i64 b] [.int .i64 c, .int .i64 d] (fsOf 73) = some (decide (a = c) && decide (b = d)) := by
  have e : fieldsEq Try.prog [.int .i64 a, .int .i64 b] [.int .i64 c, .int .i64 d] (fsOf 73) = (match some (decide (a = c)) with | some true => (match some (decide (b = d)) with | some true => some true | some false => some false | none => none) | some false => some false | none => none) := by kernel_rfl
  rw [e]
  cases decide (a = c) <;> cases decide (b = d) <;> rfl
theorem cel_neq (x y : Operand) (a b : Int) : exBin Try.prog .neq 73 x y (.agg ⟨[.int .i64 a, .int .i64 b]⟩) (.agg ⟨[.int .i64 a, .int .i64 b]⟩) = some (.bool false) := by
  have := (bin_struct und_cel held_cel gt_cel rfl rfl (fe_cel a b a b) (x := x) (y := y)).2
  simpa using this
theorem q_cells : quiet Try.prog (drawN Try.f17 0) = true := by decide +kernel
theorem q_ints : quiet Try.prog (drawN Try.f20 0) = true := by decide +kernel
/-! ### What tables that agree tell -/
theorem idx_shift (x : ByteArray) (j : Nat) : ∀ (k : Nat) (l : List ByteArray), idxF x (k + j) l = Option.map (fun n => n + j) (idxF x k l)
  | _, [] => rfl
  | k, a :: l => by
    simp only [idxF]
    split
    · rfl
    · rw [show k + j + 1 = k + 1 + j by omega]; exact idx_shift x j (k + 1) l
theorem inV_map (o : Option Nat) (d : Nat) : inV (Option.map (fun n : Nat => (n : Int)) (Option.map (fun n => n + d) o)) = rIdx o d := by
  cases o <;> simp [inV, rIdx]
theorem inV_map0 (o : Option Nat) : inV (Option.map (fun n : Nat => (n : Int)) o) = rIdx o 0 := by
  cases o <;> simp [inV, rIdx]
section
variable {T : Tab} {R : RT} (h : Agree T R)
include h
theorem Agree.proc (x : ByteArray) : inV (findP x T.procs) = rIdx (idxF x 0 R.procs) 1 ∧ (findP x T.procs).isSome = (idxF x 0 R.procs).isSome := by
  rw [h.a7, find_num, some_map, show (1 : Nat) = 0 + 1 from rfl, idx_shift, inV_map]
  exact ⟨rfl, by cases idxF x 0 R.procs <;> rfl⟩
theorem Agree.reg (x : ByteArray) : inV (findP x T.regions) = rIdx (regF x 0 (R.names.zip R.means)) 0 ∧ (findP x T.regions).isSome = (regF x 0 (R.names.zip R.means)).isSome := by
  rw [h.a6, find_reg, some_map, inV_map0]
  exact ⟨rfl, rfl⟩
theorem Agree.locals (i : Int) : localsAt T i = numF 0 (rlocalsAt R i) := by
  unfold localsAt rlocalsAt
  rw [h.a8]
  by_cases h0 : i < 0
  · rw [if_pos h0, if_pos (by omega)]; rfl
  · rw [if_neg h0]
    by_cases h1 : i < 1
    · rw [if_pos h1, show i.toNat = 0 by omega]; rfl
    · rw [if_neg h1, show i.toNat = (i - 1).toNat + 1 by omega, List.getElem?_cons_succ, List.getElem?_map]
      cases R.locals[(i - 1).toNat]? <;> rfl
theorem Agree.local_ (i : Int) (x : ByteArray) : inV (findP x (localsAt T i)) = rIdx (idxF x 0 (rlocalsAt R i)) 0 ∧ (findP x (localsAt T i)).isSome = (idxF x 0 (rlocalsAt R i)).isSome := by
  rw [h.locals, find_num, some_map, inV_map0]
  exact ⟨rfl, rfl⟩
theorem Agree.params (i : Int) : paramAt T i = rheadAt R i := by
  unfold paramAt rheadAt
  rw [h.a9]
  by_cases h0 : i < 0
  · rw [if_pos h0, if_pos (by omega)]
  · rw [if_neg h0]
    by_cases h1 : i < 1
    · rw [if_pos h1, show i.toNat = 0 by omega]; rfl
    · rw [if_neg h1, show i.toNat = (i - 1).toNat + 1 by omega, List.getElem?_cons_succ]
theorem Agree.size (i : Int) : (localsAt T i).length = (rlocalsAt R i).length := by rw [h.locals, numF_len]
end
section
variable {E : Hooks} (hE : Plain E)
include hE
theorem c_same (args : List Value) (H : Heap) : (run Try.prog E).call 16 args H = callB Try.prog E Try.f16 args H := call_B Try.func16 rfl (by decide +kernel) (hE.no _ rfl rfl) args H
theorem c_cellsL (args : List Value) (H : Heap) : (run Try.prog E).call 17 args H = callB Try.prog E Try.f17 args H := call_B Try.func17 rfl (by decide +kernel) (hE.no _ rfl rfl) args H
theorem c_Ints (args : List Value) (H : Heap) : (run Try.prog E).call 20 args H = callB Try.prog E Try.f20 args H := call_B Try.func20 rfl (by decide +kernel) (hE.no _ rfl rfl) args H
theorem ints_same {H : Heap} {S S' : Nat → Prop} {v w : Value} {l : List Int} (g : repInt.G H S v l) (g' : repInt.G H S' w l) (hl : l.length ≤ 100000) : (run Try.prog E).call 20 [v, w] H = some (.val (.bool true), H) := by
  suffices key : Gives ((run Try.prog E).call 20 [v, w] H) fun o H' => o = .val (.bool true) ∧ H' = H by
    obtain ⟨o, H', e, rfl, rfl⟩ := key
    exact e
  obtain ⟨b1, rfl⟩ := repInt.G_slice g
  obtain ⟨b2, rfl⟩ := repInt.G_slice g'
  rw [c_Ints hE, callB, bodyOf]
  simp [Try.f20]
  refine loop_mid2 (fun t K' => K' = H) (fun m t K' => K' = H ∧ ∃ k, k ≤ l.length ∧ m = l.length - k ∧ rd t 5 = .int .i64 k) l.length ?_ ?_ ?_
  · exact ⟨rfl, 0, Nat.zero_le _, by simp, by simp⟩
  · rintro m t _ hk ⟨rfl, k, hkl, rfl, g5⟩
    have ht : t.length = 26 := hk.1.trans (by simp [len_Bs])
    have hh := hk.all [0, 1] (by decide +kernel)
    simp at hh
    obtain ⟨u0, u1⟩ := hh
    rcases Nat.lt_or_ge k l.length with hlt | hge
    · obtain ⟨id, tl, cs, e1, hrow, hcl, hk1, hc1⟩ := int_cell g hlt
      cases e1
      obtain ⟨id2, tl2, cs2, e2, hrow2, hcl2, hk2, hc2⟩ := int_cell g' hlt
      cases e2
      generalize l[k] = y at *
      have w1 : IntKind.i64.wrap ((k : Int) + 1) = (k : Int) + 1 := wrap64 _ (by omega) (by omega)
      simp [ht, u0, u1, g5, hlt]
      refine region_quiet (by exact q_ints) ?_
      simp [ht, u0, u1, g5, hlt, hrow, hcl, hc1, hrow2, hcl2, hc2, w1]
      exact ⟨l.length - (k + 1), by omega, k + 1, by omega, rfl, by simp [ht]⟩
    · simp [ht, u0, u1, g5, show ¬ k < l.length by omega]
  · rintro t _ hk rfl
    have ht : t.length = 26 := hk.1.trans (by simp [len_Bs])
    simp [ht]
theorem cells_same {H : Heap} {S S' : Nat → Prop} {v w : Value} {l : List Cel} (g : repCel.G H S v l) (g' : repCel.G H S' w l) (hl : l.length ≤ 100000) : (run Try.prog E).call 17 [v, w] H = some (.val (.bool true), H) := by
  suffices key : Gives ((run Try.prog E).call 17 [v, w] H) fun o H' => o = .val (.bool true) ∧ H' = H by
    obtain ⟨o, H', e, rfl, rfl⟩ := key
    exact e
  obtain ⟨b1, rfl⟩ := repCel.G_slice g
  obtain ⟨b2, rfl⟩ := repCel.G_slice g'
  rw [c_cellsL hE, callB, bodyOf]
  simp [Try.f17]
  refine loop_mid2 (fun t K' => K' = H) (fun m t K' => K' = H ∧ ∃ k, k ≤ l.length ∧ m = l.length - k ∧ rd t 5 = .int .i64 k) l.length ?_ ?_ ?_
  · exact ⟨rfl, 0, Nat.zero_le _, by simp, by simp⟩
  · rintro m t _ hk ⟨rfl, k, hkl, rfl, g5⟩
    have ht : t.length = 26 := hk.1.trans (by simp [len_Bs])
    have hh := hk.all [0, 1] (by decide +kernel)
    simp at hh
    obtain ⟨u0, u1⟩ := hh
    rcases Nat.lt_or_ge k l.length with hlt | hge
    · obtain ⟨id, tl, cs, e1, _, _, hrow, hcl, hget, hle⟩ := repCel.G_at g hlt
      cases e1
      obtain ⟨id2, tl2, cs2, e2, _, _, hrow2, hcl2, hget2, hle2⟩ := repCel.G_at g' hlt
      cases e2
      simp only [repCel] at hget hget2 hcl hcl2 hrow hrow2 hle
      generalize l[k] = y at *
      have w1 : IntKind.i64.wrap ((k : Int) + 1) = (k : Int) + 1 := wrap64 _ (by omega) (by omega)
      simp [ht, u0, u1, g5, hlt]
      refine region_quiet (by exact q_cells) ?_
      simp [ht, u0, u1, g5, hlt, hrow, hcl, hget, hrow2, hcl2, hget2, hle, w1, cel_neq]
      exact ⟨l.length - (k + 1), by omega, k + 1, by omega, rfl, by simp [ht]⟩
    · simp [ht, u0, u1, g5, show ¬ k < l.length by omega]
  · rintro t _ hk rfl
    have ht : t.length = 26 := hk.1.trans (by simp [len_Bs])
    simp [ht]
def SameI (H : Heap) (n : Nat) (m : Nat) (t : List Value) (K : Heap) : Prop :=
  Same (fun _ => False) H K ∧ ∃ k : Nat, k ≤ n + 3 ∧ m = n + 3 - k ∧ rd t 19 = .int .i64 ((k : Int) - 1)
theorem same_run {H : Heap} {col col' : Nat → Nat} {tid nid pid rid rtid : Nat} {v1 v2 v3 v4 v5 w1 w2 w3 w4 w5 w6 : Value} {T : Tab} {R : RT} (hT : RTab H col tid nid pid rid v1 v2 v3 v4 v5 T) (hR : RRef H col' rtid w1 w2 w3 w4 w5 w6 R) (ha : Agree T R) (hok : TOK T) (rok : ROK R) (x : ByteArray) :
    ∃ H', (run Try.prog E).call 16 [.pointer (some ⟨tid, 0, none⟩), .pointer (some ⟨rtid, 0, none⟩), .string x] H = some (.val (.bool true), H') ∧ Same (fun _ => False) H H' := by
  suffices key : Gives ((run Try.prog E).call 16 [.pointer (some ⟨tid, 0, none⟩), .pointer (some ⟨rtid, 0, none⟩), .string x] H) fun o H' => o = .val (.bool true) ∧ Same (fun _ => False) H H' by
    obtain ⟨o, H', e, rfl, k⟩ := key
    exact ⟨H', e, k⟩
  obtain ⟨A1, e1, k1⟩ := global_run hE hT x
  rw [ha.a1] at e1
  obtain ⟨a, b, c, en⟩ := nmV_three (findP x (R.names.zip R.means))
  rw [en] at e1
  have kA : Same (fun _ => False) H (A1.push (.row true 0 1 [.int .i64 a, .int .i64 b, .int .i64 c])) := k1.then_push _
  obtain ⟨A2, e2, k2⟩ := rglobal_run hE (hR.keep kA (fun _ h => h.elim)) rok x
  rw [en] at e2
  have kB : Same (fun _ => False) H (A2.push (.row true 0 1 [.int .i64 a, .int .i64 b, .int .i64 c])) := (kA.trans k2).then_push _
  have hTB := hT.keep kB (fun _ h => h.elim)
  have hRB := hR.keep kB (fun _ h => h.elim)
  obtain ⟨A3, e3, k3⟩ := procN_run hE hTB x
  rw [(ha.proc x).1, (ha.proc x).2] at e3
  have kC := kB.trans k3
  have e4 := rprocN_run hE (hR.keep kC (fun _ h => h.elim)) rok x
  obtain ⟨A4, e5, k5⟩ := region_run hE (hT.keep kC (fun _ h => h.elim)) x
  rw [(ha.reg x).1, (ha.reg x).2] at e5
  have kD := kC.trans k5
  have hRD := hR.keep kD (fun _ h => h.elim)
  have e6 := rregion_run hE hRD rok x
  have g7 : A4.get A1.n = .row true 0 1 [.int .i64 a, .int .i64 b, .int .i64 c] := k5.at (k3.at (by rw [Heap.get_push, if_neg (by have := k2.n; simp at this; omega)]; exact k2.at (Heap.get_push_self _ _) (by simp) (fun h => h)) (by simp) (fun h => h)) (by simp) (fun h => h)
  have g9 : A4.get A2.n = .row true 0 1 [.int .i64 a, .int .i64 b, .int .i64 c] := k5.at (k3.at (Heap.get_push_self _ _) (by simp) (fun h => h)) (by simp) (fun h => h)
  unfold rIdx at e3 e4 e5 e6
  generalize (match idxF x 0 R.procs with | some n => (n : Int) + 1 | none => 0) = p1 at e3 e4
  generalize (match regF x 0 (R.names.zip R.means) with | some n => (n : Int) + 0 | none => 0) = p2 at e5 e6
  obtain ⟨b3, eb3⟩ := repStr.G_slice hR.g3
  subst eb3
  rw [c_same hE, callB, bodyOf]
  simp [Try.f16, e1, e2, e3, e4, e5, e6, g7, g9, nm_neq, bin_neq_bool, Try.underlying4]
  refine loop_mid2 (fun t K => Same (fun _ => False) A4 K) (SameI A4 R.procs.length) (R.procs.length + 3) ?_ ?_ ?_
  · exact ⟨Same.refl _ _, 0, Nat.zero_le _, by simp, by simp⟩
  · rintro m t K hk ⟨kK, k, hkl, rfl, g19⟩
    have ht : t.length = 144 := hk.1.trans (by simp [len_Bs])
    have hh := hk.all [0, 1, 2] (by decide +kernel)
    simp at hh
    obtain ⟨u0, u1, u2⟩ := hh
    have kDK := kD.trans kK
    have hRK := hR.keep kDK (fun _ h => h.elim)
    have g0 := hRK.obj
    simp only [rt6] at g0
    have ll := rok.l2
    have w1 : IntKind.i64.wrap ((R.procs.length : Int) + 1) = (R.procs.length : Int) + 1 := wrap64 _ (by omega) (by omega)
    have w2 : IntKind.i64.wrap (k : Int) = (k : Int) := wrap64 _ (by omega) (by omega)
    rcases Nat.lt_or_ge k (R.procs.length + 3) with hlt | hge
    · have c1 : (k : Int) - 1 ≤ (R.procs.length : Int) + 1 := by omega
      obtain ⟨B1, f1, q1⟩ := local_run hE (hT.keep kDK (fun _ h => h.elim)) ((k : Int) - 1) x (by have := hok.l; have := hok.q; omega)
      rw [(ha.local_ _ x).1, (ha.local_ _ x).2] at f1
      have kE := kDK.trans q1
      have f2 := rlocal_run hE (hR.keep kE (fun _ h => h.elim)) rok ((k : Int) - 1) x
      obtain ⟨B2, f3, q3⟩ := params_run hE (hT.keep kE (fun _ h => h.elim)) ((k : Int) - 1)
      rw [ha.params] at f3
      have kF := kE.trans q3
      have f4 := rhead_run hE (hR.keep kF (fun _ h => h.elim)) rok ((k : Int) - 1)
      obtain ⟨B3, f5, q5⟩ := locals_run hE (hT.keep kF (fun _ h => h.elim)) ((k : Int) - 1)
      rw [ha.size] at f5
      have kG := kF.trans q5
      have f6 := rsize_run hE (hR.keep kG (fun _ h => h.elim)) rok ((k : Int) - 1)
      unfold rIdx at f1 f2
      generalize (match idxF x 0 (rlocalsAt R ((k : Int) - 1)) with | some n => (n : Int) + 0 | none => 0) = p3 at f1 f2
      simp [ht, u0, u1, u2, g19, g0, w1, c1, f1, f2, f3, f4, f5, f6, bin_neq_bool, Try.underlying4, w2]
      exact ⟨R.procs.length + 3 - (k + 1), by omega, kK.trans (q1.trans (q3.trans q5)), k + 1, by omega, rfl, by simp [ht]⟩
    · have c1 : ¬ (k : Int) - 1 ≤ (R.procs.length : Int) + 1 := by omega
      simp [ht, u0, u1, u2, g19, g0, w1, c1]
      exact kK
  · rintro t K hk kK
    have ht : t.length = 144 := hk.1.trans (by simp [len_Bs])
    simp [ht]
    exact kD.trans kK
end
end Go.Vm.Scope
