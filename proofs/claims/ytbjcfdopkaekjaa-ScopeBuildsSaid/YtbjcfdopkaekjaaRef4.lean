/- What is proved: what the reference's table tells of names: its methods. -/
import Derived.Test.YtbjcfdopkaekjaaTab11
namespace Go.Vm.Scope
open Go Go.Proofs Go.Vm.Parse
set_option maxRecDepth 100000
set_option maxHeartbeats 4000000
set_option linter.unusedSimpArgs false
set_option linter.unusedVariables false
attribute [local simp] repCells_succ writeAt rd_Fr toList_beq gpe gpn spe gse gsn ne_r0 ne_l0 le_s0 ne_r1 ne_l1 lt_s1 le_s1 ne_r2 ne_l2 lt_s2 le_s2 ne_r3 ne_l3 lt_s3 le_s3 ne_r4 ne_l4 lt_s4 le_s4 ne_r5 ne_l5 lt_s5 le_s5 ne_r6 ne_l6 lt_s6 le_s6 ne_r7 ne_l7 lt_s7 le_s7
def idxF (x : ByteArray) : Nat → List ByteArray → Option Nat
  | _, [] => none
  | k, y :: l => if y = x then some k else idxF x (k + 1) l
def regF (x : ByteArray) : Nat → List (ByteArray × Nm) → Option Nat
  | _, [] => none
  | n, (y, m) :: l => if m.kind = 3 then (if y = x then some n else regF x (n + 1) l) else regF x n l
def celF : Int → List Nm → List Cel
  | _, [] => []
  | a, m :: l => if clsP m.kind = 3 then ⟨a, m.size⟩ :: celF (a + max m.size 1) l else celF a l
def ofF (k : Int) : List (Nm × Int) → List Int
  | [] => []
  | (m, v) :: l => if m.kind = k then v :: ofF k l else ofF k l
/-- How a table of the reference always is. -/
structure ROK (R : RT) : Prop where
  n1 : R.means.length = R.names.length
  n2 : R.values.length = R.names.length
  n3 : R.heads.length = R.procs.length
  n4 : R.locals.length = R.procs.length
  l1 : R.names.length ≤ 100000
  l2 : R.procs.length ≤ 100000
  l3 : ∀ l ∈ R.locals, l.length ≤ 100000
  sz : ∀ m ∈ R.means, 0 ≤ m.size ∧ m.size ≤ 64
theorem getc {α : Type} {l : List α} {k : Nat} {w : α} (h : List.take 1 (List.drop k l) = [w]) : l[k]? = some w := by
  have := congrArg (fun q => q[0]?) h
  simpa using this
theorem str_cell {H : Heap} {S : Nat → Prop} {v : Value} {l : List ByteArray} (g : repStr.G H S v l) {k : Nat} (hk : k < l.length) : ∃ id tl cs, v = .slice (some ⟨id, 0, none⟩) l.length l.length ∧ H.get id = .row true tl 1 cs ∧ cs.length = l.length ∧ ∃ h : k < cs.length, cs[k]'h = .string l[k] := by
  obtain ⟨id, tl, cs, e1, _, _, hrow, hcl, hget, hle⟩ := repStr.G_at g hk
  simp only [repStr, Nat.mul_one] at hget hcl hrow
  exact ⟨id, tl, cs, e1, hrow, hcl, by omega, (List.getElem?_eq_some_iff.1 (getc hget)).2⟩
theorem int_cell {H : Heap} {S : Nat → Prop} {v : Value} {l : List Int} (g : repInt.G H S v l) {k : Nat} (hk : k < l.length) : ∃ id tl cs, v = .slice (some ⟨id, 0, none⟩) l.length l.length ∧ H.get id = .row true tl 1 cs ∧ cs.length = l.length ∧ ∃ h : k < cs.length, cs[k]'h = .int .i64 l[k] := by
  obtain ⟨id, tl, cs, e1, _, _, hrow, hcl, hget, hle⟩ := repInt.G_at g hk
  simp only [repInt, Nat.mul_one] at hget hcl hrow
  exact ⟨id, tl, cs, e1, hrow, hcl, by omega, (List.getElem?_eq_some_iff.1 (getc hget)).2⟩
theorem nm_cell {H : Heap} {S : Nat → Prop} {v : Value} {l : List Nm} (g : repNm.G H S v l) {k : Nat} (hk : k < l.length) : ∃ id tl cs, v = .slice (some ⟨id, 0, none⟩) l.length l.length ∧ H.get id = .row true tl 3 cs ∧ cs.length = l.length * 3 ∧ k * 3 + 3 ≤ l.length * 3 ∧
    (cs.drop (k * 3)).take 3 = [.int .i64 l[k].kind, .int .i64 l[k].index, .int .i64 l[k].size] ∧ (∃ h : k * 3 < cs.length, cs[k * 3]'h = .int .i64 l[k].kind) ∧ ∃ h : k * 3 + 2 < cs.length, cs[k * 3 + 2]'h = .int .i64 l[k].size := by
  obtain ⟨id, tl, cs, e1, _, _, hrow, hcl, hget, hle⟩ := repNm.G_at g hk
  simp only [repNm] at hget hcl hrow hle
  refine ⟨id, tl, cs, e1, hrow, hcl, hle, hget, ⟨by omega, ?_⟩, ⟨by omega, ?_⟩⟩
  · have : cs[k * 3]? = some (.int .i64 l[k].kind) := by
      have := congrArg (fun q => q[0]?) hget
      simpa using this
    exact (List.getElem?_eq_some_iff.1 this).2
  · have : cs[k * 3 + 2]? = some (.int .i64 l[k].size) := by
      have := congrArg (fun q => q[2]?) hget
      simpa using this
    exact (List.getElem?_eq_some_iff.1 this).2
section
variable {E : Hooks} (hE : Plain E)
include hE
theorem c_rGlobal (args : List Value) (H : Heap) : (run Try.prog E).call 52 args H = callB Try.prog E Try.f52 args H := call_B Try.func52 rfl (by decide +kernel) (hE.no _ rfl rfl) args H
theorem c_rProcN (args : List Value) (H : Heap) : (run Try.prog E).call 53 args H = callB Try.prog E Try.f53 args H := call_B Try.func53 rfl (by decide +kernel) (hE.no _ rfl rfl) args H
theorem c_rLocal (args : List Value) (H : Heap) : (run Try.prog E).call 55 args H = callB Try.prog E Try.f55 args H := call_B Try.func55 rfl (by decide +kernel) (hE.no _ rfl rfl) args H
theorem c_rRegion (args : List Value) (H : Heap) : (run Try.prog E).call 54 args H = callB Try.prog E Try.f54 args H := call_B Try.func54 rfl (by decide +kernel) (hE.no _ rfl rfl) args H
theorem c_rCells (args : List Value) (H : Heap) : (run Try.prog E).call 19 args H = callB Try.prog E Try.f19 args H := call_B Try.func19 rfl (by decide +kernel) (hE.no _ rfl rfl) args H
theorem c_rOf (args : List Value) (H : Heap) : (run Try.prog E).call 22 args H = callB Try.prog E Try.f22 args H := call_B Try.func22 rfl (by decide +kernel) (hE.no _ rfl rfl) args H
theorem c_rParams (args : List Value) (H : Heap) : (run Try.prog E).call 56 args H = callB Try.prog E Try.f56 args H := call_B Try.func56 rfl (by decide +kernel) (hE.no _ rfl rfl) args H
theorem c_rSize (args : List Value) (H : Heap) : (run Try.prog E).call 57 args H = callB Try.prog E Try.f57 args H := call_B Try.func57 rfl (by decide +kernel) (hE.no _ rfl rfl) args H
variable {H : Heap} {col : Nat → Nat} {tid : Nat} {v1 v2 v3 v4 v5 v6 : Value} {R : RT} (h : RRef H col tid v1 v2 v3 v4 v5 v6 R) (hok : ROK R)
include h hok
theorem rglobal_run (x : ByteArray) : ∃ H', (run Try.prog E).call 52 [.pointer (some ⟨tid, 0, none⟩), .string x] H = some (.val (.tuple #[nmV (findP x (R.names.zip R.means)), .bool (findP x (R.names.zip R.means)).isSome]), H') ∧ Same (fun _ => False) H H' := by
  suffices key : Gives ((run Try.prog E).call 52 [.pointer (some ⟨tid, 0, none⟩), .string x] H) fun o H' => o = .val (.tuple #[nmV (findP x (R.names.zip R.means)), .bool (findP x (R.names.zip R.means)).isSome]) ∧ Same (fun _ => False) H H' by
    obtain ⟨o, H', e, rfl, k⟩ := key
    exact ⟨H', e, k⟩
  have kp := Same.push (fun _ => False) H (.row true 0 1 [.int .i64 0, .int .i64 0, .int .i64 0])
  have hp := h.keep kp (fun _ h => h.elim)
  have lt := Heap.lt_of_get h.obj (by simp)
  have g0 := hp.obj
  have gz : (H.push (.row true 0 1 [.int .i64 0, .int .i64 0, .int .i64 0])).get H.n = _ := Heap.get_push_self _ _
  have gn : H.n < (H.push (.row true 0 1 [.int .i64 0, .int .i64 0, .int .i64 0])).n := Nat.lt_succ_self _
  obtain ⟨b1, rfl⟩ := repStr.G_slice h.g1
  simp only [rt6] at g0
  rw [c_rGlobal hE, callB, bodyOf]
  simp [Try.f52]
  generalize hK : H.push (.row true 0 1 [.int .i64 0, .int .i64 0, .int .i64 0]) = K at *
  refine loop_mid2 (fun t K' => K' = K ∧ findP x (R.names.zip R.means) = none) (fun m t K' => K' = K ∧ ∃ k, k ≤ R.names.length ∧ m = R.names.length - k ∧ rd t 6 = .int .i64 k ∧ findP x (R.names.zip R.means) = findP x ((R.names.zip R.means).drop k)) R.names.length ?_ ?_ ?_
  · exact ⟨rfl, 0, Nat.zero_le _, by simp, by simp, by simp⟩
  · rintro m t _ hk ⟨rfl, k, hkl, rfl, g6, hf⟩
    have ht : t.length = 33 := hk.1.trans (by simp [len_Bs])
    have hh := hk.all [0, 1, 4] (by decide +kernel)
    simp at hh
    obtain ⟨u0, u1, u4⟩ := hh
    rcases Nat.lt_or_ge k R.names.length with hlt | hge
    · obtain ⟨id, tl, cs, e1, hrow, hcl, hk1, hc1⟩ := str_cell hp.g1 hlt
      cases e1
      have hlt2 : k < R.means.length := by have := hok.n1; omega
      obtain ⟨id2, tl2, cs2, e2, hrow2, hcl2, hle2, hget2, _⟩ := nm_cell hp.g2 hlt2
      subst e2
      have hz : (R.names.zip R.means).drop k = (R.names[k], R.means[k]) :: (R.names.zip R.means).drop (k + 1) := by
        rw [List.drop_eq_getElem_cons (by rw [List.length_zip]; omega), List.getElem_zip]
      rw [hz, findP] at hf
      generalize R.names[k] = y at *
      generalize R.means[k] = mm at *
      have w1 : IntKind.i64.wrap ((k : Int) + 1) = (k : Int) + 1 := wrap64 _ (by omega) (by have := hok.l1; omega)
      by_cases hy : y = x
      · subst hy
        rw [if_pos rfl] at hf
        rw [hf]
        simp [ht, u0, u1, u4, g6, hlt, hlt2, g0, hrow, hcl, hc1, hrow2, hcl2, hle2, hget2, gz, gn, nmV, Nm.v]
        exact kp.then_set gn (.inr (Nat.le_refl _)) _
      · rw [if_neg hy] at hf
        simp [ht, u0, u1, u4, g6, hlt, g0, hrow, hcl, hc1, hy, w1]
        exact ⟨R.names.length - (k + 1), by omega, k + 1, by omega, rfl, by simp [ht], hf⟩
    · simp [ht, u0, u1, u4, g6, g0, show ¬ k < R.names.length by omega]
      rw [hf, List.drop_eq_nil_of_le (by rw [List.length_zip]; omega)]
      rfl
  · rintro t _ hk ⟨rfl, hf⟩
    have ht : t.length = 33 := hk.1.trans (by simp [len_Bs])
    have hh := hk.all [0, 1, 4] (by decide +kernel)
    simp at hh
    obtain ⟨u0, u1, u4⟩ := hh
    rw [hf]
    simp [ht, u0, u1, u4, gz, gn, nmV, zN]
    exact kp.then_set gn (.inr (Nat.le_refl _)) _
def rIdx (o : Option Nat) (d : Int) : Value := .int .i64 (match o with | some n => (n : Int) + d | none => 0)
theorem rprocN_run (x : ByteArray) : (run Try.prog E).call 53 [.pointer (some ⟨tid, 0, none⟩), .string x] H = some (.val (.tuple #[rIdx (idxF x 0 R.procs) 1, .bool (idxF x 0 R.procs).isSome]), H) := by
  suffices key : Gives ((run Try.prog E).call 53 [.pointer (some ⟨tid, 0, none⟩), .string x] H) fun o H' => o = .val (.tuple #[rIdx (idxF x 0 R.procs) 1, .bool (idxF x 0 R.procs).isSome]) ∧ H' = H by
    obtain ⟨o, H', e, rfl, rfl⟩ := key
    exact e
  have g0 := h.obj
  obtain ⟨b1, rfl⟩ := repStr.G_slice h.g3
  simp only [rt6] at g0
  rw [c_rProcN hE, callB, bodyOf]
  simp [Try.f53]
  refine loop_mid2 (fun t K' => K' = H ∧ idxF x 0 R.procs = none) (fun m t K' => K' = H ∧ ∃ k, k ≤ R.procs.length ∧ m = R.procs.length - k ∧ rd t 6 = .int .i64 k ∧ idxF x 0 R.procs = idxF x k (R.procs.drop k)) R.procs.length ?_ ?_ ?_
  · exact ⟨rfl, 0, Nat.zero_le _, by simp, by simp, by simp⟩
  · rintro m t _ hk ⟨rfl, k, hkl, rfl, g6, hf⟩
    have ht : t.length = 27 := hk.1.trans (by simp [len_Bs])
    have hh := hk.all [0, 1] (by decide +kernel)
    simp at hh
    obtain ⟨u0, u1⟩ := hh
    rcases Nat.lt_or_ge k R.procs.length with hlt | hge
    · obtain ⟨id, tl, cs, e1, hrow, hcl, hk1, hc1⟩ := str_cell h.g3 hlt
      cases e1
      rw [List.drop_eq_getElem_cons hlt, idxF] at hf
      generalize R.procs[k] = y at *
      have w1 : IntKind.i64.wrap ((k : Int) + 1) = (k : Int) + 1 := wrap64 _ (by omega) (by have := hok.l2; omega)
      by_cases hy : y = x
      · subst hy
        rw [if_pos rfl] at hf
        rw [hf]
        simp [ht, u0, u1, g6, hlt, g0, hrow, hcl, hc1, w1, rIdx]
      · rw [if_neg hy] at hf
        simp [ht, u0, u1, g6, hlt, g0, hrow, hcl, hc1, hy, w1]
        exact ⟨R.procs.length - (k + 1), by omega, k + 1, by omega, rfl, by simp [ht], hf⟩
    · simp [ht, u0, u1, g6, g0, show ¬ k < R.procs.length by omega]
      rw [hf, List.drop_eq_nil_of_le (by omega)]
      rfl
  · rintro t _ hk ⟨rfl, hf⟩
    have ht : t.length = 27 := hk.1.trans (by simp [len_Bs])
    rw [hf]
    simp [ht, rIdx]
end
end Go.Vm.Scope
