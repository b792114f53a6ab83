/- What is proved: 'signalboxlaw23.ExprDeep' hands back true, whatever the input. -/
import Derived.Test.YtblmgcfigcpoaaaExprD
namespace Go.Vm.Ex
open Go Go.Proofs Go.Vm.Parse Go.Vm.ExprLaw
set_option maxRecDepth 100000
set_option maxHeartbeats 4000000
set_option linter.unusedSimpArgs false
set_option linter.unusedVariables false
attribute [local simp] repCells_succ writeAt rd_Fr toList_beq gpe gpn spe gse gsn ne_r0 ne_l0 le_s0 ne_r1 ne_l1 lt_s1 le_s1 ne_r2 ne_l2 lt_s2 le_s2 ne_r3 ne_l3 lt_s3 le_s3 ne_r4 ne_l4 lt_s4 le_s4 ne_r5 ne_l5 lt_s5 le_s5 ne_r6 ne_l6 lt_s6 le_s6 ne_r7 ne_l7 lt_s7 le_s7
theorem openB_size (k : Nat) : (openB k).size ≤ 2 := by unfold openB; split <;> decide
theorem closeB_size (k : Nat) : (closeB k).size ≤ 1 := by unfold closeB; split <;> decide
theorem openT_size (k : Nat) : ∀ i, (openT k i).size ≤ 2 * i
  | 0 => Nat.le_refl 0
  | i + 1 => by
    have := openT_size k i
    have := openB_size k
    simp only [openT, ByteArray.size_append]; omega
theorem deepT_size (k n : Nat) : ∀ i, (deepT k n i).size ≤ 2 * n + 1 + i
  | 0 => by
    have := openT_size k n
    simp only [deepT, ByteArray.size_append]
    have : (⟨#[49]⟩ : ByteArray).size = 1 := rfl
    omega
  | i + 1 => by
    have := deepT_size k n i
    have := closeB_size k
    simp only [deepT, ByteArray.size_append]; omega
/-- What stands in the slots behind the choice of the kind. -/
def DeepS (n k : Nat) (lv : Int) (t : List Value) : Prop := t.length = 96 ∧ rd t 0 = .int .i64 n ∧ rd t 2 = .int .i64 lv ∧ rd t 7 = .string (openB k) ∧ rd t 8 = .string (closeB k) ∧ rd t 9 = .int .i64 k
def OpenI (n k : Nat) (lv : Int) (m : Nat) (t : List Value) (K : Heap) : Prop := ∃ i, i ≤ n ∧ m = n - i ∧ rd t 11 = .int .i64 i ∧ rd t 10 = .string (openT k i) ∧ DeepS n k lv t ∧ K = Heap.empty
def OpenJ (n k : Nat) (lv : Int) (t : List Value) (K : Heap) : Prop := rd t 10 = .string (openT k n) ∧ DeepS n k lv t ∧ K = Heap.empty
def CloseI (n k : Nat) (lv : Int) (m : Nat) (t : List Value) (K : Heap) : Prop := ∃ i, i ≤ n ∧ m = n - i ∧ rd t 12 = .int .i64 i ∧ rd t 10 = .string (deepT k n i) ∧ DeepS n k lv t ∧ K = Heap.empty
def CloseJ (n k : Nat) (lv : Int) (t : List Value) (K : Heap) : Prop := rd t 10 = .string (deepT k n n) ∧ DeepS n k lv t ∧ K = Heap.empty
theorem c_Deep (args : List Value) (H : Heap) : (run Try.prog E1).call 5 args H = callB Try.prog E1 Try.f5 args H := call_B Try.func5 rfl (by decide +kernel) rfl args H
theorem deep_walk (num : Int) (w0 : Lit.wf (.int .i64 num) = true) (kind : Int) (w1 : Lit.wf (.int .i64 kind) = true) (lv : Int) (w2 : Lit.wf (.int .i64 lv) = true) : Gives ((run Try.prog E1).call 5 [.int .i64 num, .int .i64 kind, .int .i64 lv] Heap.empty) fun o _ => o = .val (.bool true) := by
  have aw := awake_true
  rw [c_Deep, callB, bodyOf]
  by_cases c1 : num < 1
  · simp [Try.f5, c1, aw]
  by_cases c2 : 60 < num
  · simp [Try.f5, c1, c2, aw]
  by_cases c3 : lv < 0
  · simp [Try.f5, c1, c2, c3, aw]
  by_cases c4 : 24 < lv
  · simp [Try.f5, c1, c2, c3, c4, aw]
  obtain ⟨n, rfl⟩ : ∃ n : Nat, num = n := ⟨num.toNat, by omega⟩
  obtain ⟨k, k0, k1, ek⟩ := within_any plain_E1 w1 0 2 (by omega) (by omega) (by omega)
  have hk : k ≤ 2 := by omega
  have hn1 : 1 ≤ n := by omega
  have hn2 : n ≤ 60 := by omega
  obtain ⟨L, N, e, s, hlex, hx, hs⟩ := deep_all (n := n) hk (lv := lv) (by omega)
  simp [Try.f5, c1, c2, c3, c4, ek]
  refine ends_cut (fun t K => DeepS n k lv t ∧ K = Heap.empty) ?_ ?_
  · rcases (show k = 0 ∨ k = 1 ∨ k = 2 by omega) with rfl | rfl | rfl <;> simp [DeepS, openB, closeB, len_Bs]
  rintro t K ⟨hS, rfl⟩
  have ⟨ht, u0, u2, u7, u8, u9⟩ := hS
  simp [ht, u0, u2, u7, u8, u9]
  refine loop_mid (OpenJ n k lv) (OpenI n k lv) n ?_ ?_ ?_
  · exact ⟨0, Nat.zero_le _, by simp, by simp [ht], by simp [ht, openT], ⟨by simp [ht], by simp [ht, u0], by simp [ht, u2], by simp [ht, u7], by simp [ht, u8], by simp [ht, u9]⟩, rfl⟩
  · rintro m t K hkp ⟨i, hin, rfl, g11, g10, hS, rfl⟩
    have ⟨ht, u0, u2, u7, u8, u9⟩ := hS
    rcases Nat.lt_or_ge i n with hlt | hge
    · have hsz := openT_size k i
      have hsb := openB_size k
      have f1 := fun x y => bin_cat2 x y (openT k i) (openB k) (by omega)
      have hw := wrap64 ((i : Int) + 1) (by omega) (by omega)
      simp [ht, u0, u7, g11, g10, hlt, f1, hw]
      exact ⟨n - (i + 1), by omega, i + 1, by omega, rfl, by simp [ht], by simp [ht, openT], ⟨by simp [ht], by simp [ht, u0], by simp [ht, u2], by simp [ht, u7], by simp [ht, u8], by simp [ht, u9]⟩, rfl⟩
    · obtain rfl : i = n := by omega
      simp [ht, u0, g11, g10]
      exact ⟨by simp [ht, g10], ⟨by simp [ht], by simp [ht, u0], by simp [ht, u2], by simp [ht, u7], by simp [ht, u8], by simp [ht, u9]⟩, rfl⟩
  · rintro t K hkp ⟨g10, hS, rfl⟩
    have ⟨ht, u0, u2, u7, u8, u9⟩ := hS
    have hsz := openT_size k n
    have f1 := fun x y => bin_cat2 x y (openT k n) ⟨#[49]⟩ (by have : (⟨#[49]⟩ : ByteArray).size = 1 := rfl; omega)
    simp [ht, u0, g10, f1]
    refine loop_mid (CloseJ n k lv) (CloseI n k lv) n ?_ ?_ ?_
    · exact ⟨0, Nat.zero_le _, by simp, by simp [ht], by simp [ht, deepT], ⟨by simp [ht], by simp [ht, u0], by simp [ht, u2], by simp [ht, u7], by simp [ht, u8], by simp [ht, u9]⟩, rfl⟩
    · rintro m t K hkp ⟨i, hin, rfl, g11, g10, hS, rfl⟩
      have ⟨ht, u0, u2, u7, u8, u9⟩ := hS
      rcases Nat.lt_or_ge i n with hlt | hge
      · have hsz := deepT_size k n i
        have hsb := closeB_size k
        have f1 := fun x y => bin_cat2 x y (deepT k n i) (closeB k) (by omega)
        have hw := wrap64 ((i : Int) + 1) (by omega) (by omega)
        simp [ht, u0, u8, g11, g10, hlt, f1, hw]
        exact ⟨n - (i + 1), by omega, i + 1, by omega, rfl, by simp [ht], by simp [ht, deepT], ⟨by simp [ht], by simp [ht, u0], by simp [ht, u2], by simp [ht, u7], by simp [ht, u8], by simp [ht, u9]⟩, rfl⟩
      · obtain rfl : i = n := by omega
        simp [ht, u0, g11, g10]
        exact ⟨by simp [ht, g10], ⟨by simp [ht], by simp [ht, u0], by simp [ht, u2], by simp [ht, u7], by simp [ht, u8], by simp [ht, u9]⟩, rfl⟩
    · rintro t K hkp ⟨g10, hS, rfl⟩
      have ⟨ht, u0, u2, u7, u8, u9⟩ := hS
      have hsz := deepT_size k n n
      have hlen : (deepT k n n).data.toList.length = (deepT k n n).size := rfl
      obtain ⟨o, K1, e1, k1', id, hid, rfl, tl, htl, hg⟩ := all_walk plain_E1 (text_BS2 (deepT k n n) Heap.empty) (by omega) hlex
      rw [hlen] at e1
      have hll := lexFrom_len hlex
      simp at hll
      have hid2 := Heap.lt_of_get hg (by simp)
      obtain ⟨o2, K2, e2, k2, hR⟩ := par_walk plain_E1 (H := K1.push (.row true 0 1 [.int .i64 0, .int .i64 0])) (lid := id) (tl := tl) (L := L) (by rw [Heap.get_push, if_neg (by omega)]; exact hg) (by omega) (p := 0) (Nat.zero_le _) (lv := lv) (by omega) (by omega) hx
      have hw := wrap64 (24 - lv) (by omega) (by omega)
      have hw2 := wrap64 (2 * (24 - lv)) (by omega) (by omega)
      have hw3 := wrap64 (2 * (24 - lv) + 1) (by omega) (by omega)
      by_cases hc : lv + n ≤ 24
      · rw [if_pos hc] at hs
        rw [if_pos hs] at hR
        obtain ⟨cs, rfl, hr⟩ := hR
        obtain ⟨a, b, c, d, y, b1', m1, f1, rfl⟩ := RE.shape hr
        simp at e2
        simp [ht, u0, u2, u7, u8, u9, g10, conv_text2, e1, e2, hw, aw, show (n : Int) ≤ 24 - lv by omega]
      · rw [if_neg hc] at hs
        rw [if_neg (by omega)] at hR
        subst hR
        obtain ⟨hs1, hs2⟩ := hs
        by_cases hk2 : k = 2
        · rw [if_pos hk2] at hs2
          rw [hs1, hs2] at e2
          simp [z6] at e2
          subst hk2
          simp [ht, u0, u2, u7, u8, u9, g10, conv_text2, e1, e2, hw, hw2, hw3, fault_eql, aw, show ¬ (n : Int) ≤ 24 - lv by omega]
        · rw [if_neg hk2] at hs2
          rw [hs1, hs2] at e2
          simp [z6] at e2
          have hk3 : decide ((k : Int) = 2) = false := by simp; omega
          simp [ht, u0, u2, u7, u8, u9, g10, conv_text2, e1, e2, hw, hk3, hk2, fault_eql, aw, show ¬ (n : Int) ≤ 24 - lv by omega]
end Go.Vm.Ex
