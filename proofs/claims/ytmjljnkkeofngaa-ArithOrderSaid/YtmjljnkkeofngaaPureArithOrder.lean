/- Of two 64-bit numbers one is below the other, or they are equal, and the other relations follow; no condition. -/
import Derived.Test.YtmjljnkkeofngaaPArithOrderx2
import Derived.OpenShut
import Derived.Lib.Mul64
namespace Go.Proofs.Ytmjljnkkeofngaa.Pure
open Go.RowKit Go.Proofs.Ytmjljnkkeofngaa.PArithOrder Go.Proofs.YtmjljnkkeofngaaW.PrintWords Go.Proofs.YtmjljnkkeofngaaW.PrintLast
set_option linter.unusedVariables false
set_option linter.unusedSimpArgs false
namespace AArithOrder

theorem w64 {x : Int} (h : -9223372036854775808 ≤ x ∧ x ≤ 9223372036854775807) : wrap64 x = x := by unfold wrap64; omega
theorem awake_ok : signalboxlaw1_awake.f 5 = some true := by decide +kernel
theorem awake_ok4 : signalboxlaw1_awake.f 4 = some true := by decide +kernel
theorem add_eq (a b : Int) (ha : -9223372036854775808 ≤ a ∧ a ≤ 9223372036854775807) (hb : -9223372036854775808 ≤ b ∧ b ≤ 9223372036854775807) :
    arith_Add.f a b = if -9223372036854775808 ≤ a + b ∧ a + b ≤ 9223372036854775807 then some (a + b, 0) else some (0, 31) := by
  unfold arith_Add.f
  by_cases h : -9223372036854775808 ≤ a + b ∧ a + b ≤ 9223372036854775807
  · rw [w64 h, if_pos h, if_neg]
    simp only [bne_iff_ne, ne_eq, Bool.not_eq_true, Decidable.not_not]
    rw [decide_eq_decide]; omega
  · rw [if_neg h, if_pos]
    have e : decide (wrap64 (a + b) < a) = !decide (b < 0) := by
      by_cases hb0 : b < 0
      · have : ¬ (wrap64 (a + b) < a) := by unfold wrap64; omega
        simp [hb0, this]
      · have : wrap64 (a + b) < a := by unfold wrap64; omega
        simp [hb0, this]
    rw [e]; simp
theorem sub_eq (a b : Int) (ha : -9223372036854775808 ≤ a ∧ a ≤ 9223372036854775807) (hb : -9223372036854775808 ≤ b ∧ b ≤ 9223372036854775807) :
    arith_Sub.f a b = if -9223372036854775808 ≤ a - b ∧ a - b ≤ 9223372036854775807 then some (a - b, 0) else some (0, 31) := by
  unfold arith_Sub.f
  by_cases h : -9223372036854775808 ≤ a - b ∧ a - b ≤ 9223372036854775807
  · rw [w64 h, if_pos h, if_neg]
    simp only [bne_iff_ne, ne_eq, Bool.not_eq_true, Decidable.not_not]
    rw [decide_eq_decide]; omega
  · rw [if_neg h, if_pos]
    have e : decide (wrap64 (a - b) > a) = !decide (b < 0) := by
      by_cases hb0 : b < 0
      · have : ¬ (wrap64 (a - b) > a) := by unfold wrap64; omega
        simp [hb0, this]
      · have : wrap64 (a - b) > a := by unfold wrap64; omega
        simp [hb0, this]
    rw [e]; simp
theorem neg_eq (a : Int) (ha : -9223372036854775808 ≤ a ∧ a ≤ 9223372036854775807) :
    arith_Neg.f a = if -9223372036854775808 ≤ -a ∧ -a ≤ 9223372036854775807 then some (-a, 0) else some (0, 31) := by
  unfold arith_Neg.f
  by_cases h : a = -9223372036854775808
  · rw [if_pos h, if_neg (by omega)]
  · rw [if_neg h, if_pos (by omega), w64 (by omega)]
theorem mul_lt_of (a b : Int) (hb : b ≠ 0) (h : -9223372036854775808 ≤ a * b ∧ a * b ≤ 9223372036854775807) : wrap64 (Int.tdiv (wrap64 (a * b)) b) = wrap64 a := by
  rw [w64 h, Int.mul_tdiv_cancel _ hb]
/-- The product: what it comes to. -/
theorem mul_eq (k : Nat) (a b : Int) (ha : -9223372036854775808 ≤ a ∧ a ≤ 9223372036854775807) (hb : -9223372036854775808 ≤ b ∧ b ≤ 9223372036854775807) :
    arith_Mul.f (k + 1) a b = if -9223372036854775808 ≤ a * b ∧ a * b ≤ 9223372036854775807 then some (a * b, 0) else some (0, 31) := by
  unfold arith_Mul.f
  by_cases ha0 : a = 0
  · subst ha0; simp [arith_Mul.j0]
  · rw [if_neg ha0]
    by_cases hb0 : b = 0
    · subst hb0; simp [arith_Mul.j0]
    · have : (b == 0) = false := by simp [hb0]
      rw [this]
      simp only [arith_Mul.j0]
      rw [if_neg (by simp)]
      by_cases ha1 : a = -1
      · subst ha1; rw [if_pos rfl, neg_eq b hb]; simp only [Int.neg_mul, Int.one_mul]
        by_cases c : -9223372036854775808 ≤ -b ∧ -b ≤ 9223372036854775807
        · rw [if_pos c]; rfl
        · rw [if_neg c]; rfl
      · rw [if_neg ha1]
        by_cases hb1 : b = -1
        · subst hb1; rw [if_pos rfl, neg_eq a ha]; simp only [Int.mul_neg, Int.mul_one]
          by_cases c : -9223372036854775808 ≤ -a ∧ -a ≤ 9223372036854775807
          · rw [if_pos c]; rfl
          · rw [if_neg c]; rfl
        · rw [if_neg hb1, if_neg hb0]
          by_cases h : -9223372036854775808 ≤ a * b ∧ a * b ≤ 9223372036854775807
          · rw [if_pos h, mul_lt_of a b hb0 h, w64 ha, if_pos rfl, w64 h]
          · rw [if_neg h, if_neg]
            intro e
            -- c = wrap (a * b), |c| ≤ 2^63; c tdiv b = a
            have hc : -9223372036854775808 ≤ wrap64 (a * b) ∧ wrap64 (a * b) ≤ 9223372036854775807 := by unfold wrap64; omega
            have hcm : ∃ z, wrap64 (a * b) = a * b + 18446744073709551616 * z := by
              refine ⟨-((a * b + 9223372036854775808) / 18446744073709551616), ?_⟩
              unfold wrap64; omega
            obtain ⟨z, hz⟩ := hcm
            generalize hcc : wrap64 (a * b) = c at *
            have hb2 : b ≠ 1 := fun hb2 => h (by subst hb2; simpa using ha)
            have hq1 := Int.tdiv_mul_add_tmod c b
            have hq2 : (Int.tmod c b).natAbs < b.natAbs := by
              rw [Int.natAbs_tmod]; exact Nat.mod_lt _ (by omega)
            have hq3 : (Int.tdiv c b).natAbs = c.natAbs / b.natAbs := Int.natAbs_tdiv c b
            have hq4 : c.natAbs / b.natAbs ≤ c.natAbs / 2 := Nat.div_le_div_left (by omega) (by omega)
            generalize c.natAbs / b.natAbs = q at *
            have hw : wrap64 (Int.tdiv c b) = Int.tdiv c b := w64 (by omega)
            rw [hw] at e
            rw [e] at hq1
            omega
theorem tdiv_facts (a b : Int) : a.tdiv b * b + a.tmod b = a ∧ (0 ≤ a → 0 ≤ a.tmod b ∧ a.tmod b ≤ a) ∧ (a < 0 → a ≤ a.tmod b ∧ a.tmod b ≤ 0) ∧ (a.tdiv b).natAbs = a.natAbs / b.natAbs ∧ (b ≠ 0 → (a.tmod b).natAbs < b.natAbs) := by
  have h1 := Int.natAbs_tmod a b
  have h2 := Nat.mod_le a.natAbs b.natAbs
  refine ⟨Int.tdiv_mul_add_tmod a b, ?_, ?_, Int.natAbs_tdiv a b, ?_⟩
  · intro h
    have := Int.tmod_nonneg b h
    omega
  · intro h
    have h3 : 0 ≤ (-a).tmod b := Int.tmod_nonneg b (by omega)
    rw [Int.neg_tmod] at h3
    omega
  · intro h
    rw [h1]; exact Nat.mod_lt _ (by omega)
/-- The quotient and the rest of numbers of 64 bits. -/
theorem div_eq (a b : Int) (ha : -9223372036854775808 ≤ a ∧ a ≤ 9223372036854775807) (hb : -9223372036854775808 ≤ b ∧ b ≤ 9223372036854775807) :
    arith_Div.f a b = if b = 0 then some (0, 32) else if a = -9223372036854775808 ∧ b = -1 then some (0, 31) else some (a.tdiv b, 0) := by
  unfold arith_Div.f
  by_cases h0 : b = 0
  · rw [if_pos h0, if_pos h0]
  · rw [if_neg h0, if_neg h0]
    by_cases h1 : b = -1
    · rw [if_pos h1, neg_eq a ha]
      by_cases h2 : a = -9223372036854775808
      · rw [if_neg (by omega), if_pos ⟨h2, h1⟩]; rfl
      · rw [if_pos (by omega), if_neg (by omega)]
        have : a.tdiv b = -a := by subst h1; simp [Int.tdiv_neg]
        rw [this]; rfl
    · rw [if_neg h1, if_neg (by omega)]
      have := (tdiv_facts a b).2.2.2.1
      have h4 : a.natAbs / b.natAbs ≤ a.natAbs := Nat.div_le_self _ _
      have h5 : b.natAbs ≠ 1 → a.natAbs / b.natAbs ≤ a.natAbs / 2 := fun h => Nat.div_le_div_left (by omega) (by omega)
      rw [w64]
      by_cases h6 : b.natAbs = 1
      · have : b = 1 := by omega
        subst this; simp only [Int.tdiv_one]; omega
      · have := h5 h6; omega
theorem mod_eq (a b : Int) : arith_Mod.f a b = if b = 0 then some (0, 32) else some (a.tmod b, 0) := by
  unfold arith_Mod.f
  by_cases h0 : b = 0
  · rw [if_pos h0, if_pos h0]
  · rw [if_neg h0, if_neg h0]
    by_cases h1 : b = -1
    · rw [if_pos h1]; subst h1; simp [Int.tmod_neg]
    · rw [if_neg h1]
theorem truth_eq (p : Bool) : arith_truth.f p = some (if p then 1 else 0) := by cases p <;> rfl

end AArithOrder
open AArithOrder

theorem ArithOrder : signalboxlaw1_ArithOrder.Pure := by
  intro a b wa wb
  have ha := bounds_i64 wa
  have hb := bounds_i64 wb
  refine ⟨5, ?_⟩
  unfold signalboxlaw1_ArithOrder.f
  simp only [arith_Do.f, arith_holds.f, arith_holds.j0, truth_eq, Option.bind_some, Int.reduceEq, if_false, if_true]
  rcases Int.lt_trichotomy a b with h | h | h
  · have e1 : a ≠ b := by omega
    have e2 : ¬ b < a := by omega
    have e3 : a ≤ b := by omega
    have e4 : ¬ b ≤ a := by omega
    simp [h, e1, e2, e3, e4, awake_ok, wrap64]
  · subst h
    simp [awake_ok, wrap64]
  · have e1 : a ≠ b := by omega
    have e2 : ¬ a < b := by omega
    have e3 : ¬ a ≤ b := by omega
    have e4 : b ≤ a := by omega
    simp [h, e1, e2, e3, e4, awake_ok, wrap64]

end Go.Proofs.Ytmjljnkkeofngaa.Pure
