/- Sums, differences, products, quotients and rests of 64-bit numbers are those of the reference; no condition. -/
import Derived.Test.YtmjljnkkeofngaaPArithAsksx3
import Derived.OpenShut
import Derived.Lib.Mul64
namespace Go.Proofs.Ytmjljnkkeofngaa.Pure
open Go.RowKit Go.Proofs.Ytmjljnkkeofngaa.PArithAsks Go.Proofs.YtmjljnkkeofngaaW.PrintWords Go.Proofs.YtmjljnkkeofngaaW.PrintLast
set_option linter.unusedVariables false
set_option linter.unusedSimpArgs false
namespace AArithAsks

theorem w64 {x : Int} (h : -9223372036854775808 ≤ x ∧ x ≤ 9223372036854775807) : wrap64 x = x := by unfold wrap64; omega
theorem awake_ok : signalboxlaw1_awake.f 5 = some true := by decide +kernel
theorem awake_ok4 : signalboxlaw1_awake.f 4 = some true := by decide +kernel
theorem add_eq (a b : Int) (ha : -9223372036854775808 ≤ a ∧ a ≤ 9223372036854775807) (hb : -9223372036854775808 ≤ b ∧ b ≤ 9223372036854775807) :
    arith_Add.f a b = if -9223372036854775808 ≤ a + b ∧ a + b ≤ 9223372036854775807 then some (a + b, 0) else some (0, 31) := by
  unfold arith_Add.f
  by_cases h : -9223372036854775808 ≤ a + b ∧ a + b ≤ 9223372036854775807
  · rw [w64 h, if_pos h, if_neg]
    simp only [bne_iff_ne, ne_eq, Bool.not_eq_true, Decidable.not_not]
    rw [decide_eq_decide]; omega
  · rw [if_neg h, if_pos]
    have e : decide (wrap64 (a + b) < a) = !decide (b < 0) := by
      by_cases hb0 : b < 0
      · have : ¬ (wrap64 (a + b) < a) := by unfold wrap64; omega
        simp [hb0, this]
      · have : wrap64 (a + b) < a := by unfold wrap64; omega
        simp [hb0, this]
    rw [e]; simp
theorem sub_eq (a b : Int) (ha : -9223372036854775808 ≤ a ∧ a ≤ 9223372036854775807) (hb : -9223372036854775808 ≤ b ∧ b ≤ 9223372036854775807) :
    arith_Sub.f a b = if -9223372036854775808 ≤ a - b ∧ a - b ≤ 9223372036854775807 then some (a - b, 0) else some (0, 31) := by
  unfold arith_Sub.f
  by_cases h : -9223372036854775808 ≤ a - b ∧ a - b ≤ 9223372036854775807
  · rw [w64 h, if_pos h, if_neg]
    simp only [bne_iff_ne, ne_eq, Bool.not_eq_true, Decidable.not_not]
    rw [decide_eq_decide]; omega
  · rw [if_neg h, if_pos]
    have e : decide (wrap64 (a - b) > a) = !decide (b < 0) := by
      by_cases hb0 : b < 0
      · have : ¬ (wrap64 (a - b) > a) := by unfold wrap64; omega
        simp [hb0, this]
      · have : wrap64 (a - b) > a := by unfold wrap64; omega
        simp [hb0, this]
    rw [e]; simp
theorem neg_eq (a : Int) (ha : -9223372036854775808 ≤ a ∧ a ≤ 9223372036854775807) :
    arith_Neg.f a = if -9223372036854775808 ≤ -a ∧ -a ≤ 9223372036854775807 then some (-a, 0) else some (0, 31) := by
  unfold arith_Neg.f
  by_cases h : a = -9223372036854775808
  · rw [if_pos h, if_neg (by omega)]
  · rw [if_neg h, if_pos (by omega), w64 (by omega)]
theorem mul_lt_of (a b : Int) (hb : b ≠ 0) (h : -9223372036854775808 ≤ a * b ∧ a * b ≤ 9223372036854775807) : wrap64 (Int.tdiv (wrap64 (a * b)) b) = wrap64 a := by
  rw [w64 h, Int.mul_tdiv_cancel _ hb]
/-- The product: what it comes to. -/
theorem mul_eq (k : Nat) (a b : Int) (ha : -9223372036854775808 ≤ a ∧ a ≤ 9223372036854775807) (hb : -9223372036854775808 ≤ b ∧ b ≤ 9223372036854775807) :
    arith_Mul.f (k + 1) a b = if -9223372036854775808 ≤ a * b ∧ a * b ≤ 9223372036854775807 then some (a * b, 0) else some (0, 31) := by
  unfold arith_Mul.f
  by_cases ha0 : a = 0
  · subst ha0; simp [arith_Mul.j0]
  · rw [if_neg ha0]
    by_cases hb0 : b = 0
    · subst hb0; simp [arith_Mul.j0]
    · have : (b == 0) = false := by simp [hb0]
      rw [this]
      simp only [arith_Mul.j0]
      rw [if_neg (by simp)]
      by_cases ha1 : a = -1
      · subst ha1; rw [if_pos rfl, neg_eq b hb]; simp only [Int.neg_mul, Int.one_mul]
        by_cases c : -9223372036854775808 ≤ -b ∧ -b ≤ 9223372036854775807
        · rw [if_pos c]; rfl
        · rw [if_neg c]; rfl
      · rw [if_neg ha1]
        by_cases hb1 : b = -1
        · subst hb1; rw [if_pos rfl, neg_eq a ha]; simp only [Int.mul_neg, Int.mul_one]
          by_cases c : -9223372036854775808 ≤ -a ∧ -a ≤ 9223372036854775807
          · rw [if_pos c]; rfl
          · rw [if_neg c]; rfl
        · rw [if_neg hb1, if_neg hb0]
          by_cases h : -9223372036854775808 ≤ a * b ∧ a * b ≤ 9223372036854775807
          · rw [if_pos h, mul_lt_of a b hb0 h, w64 ha, if_pos rfl, w64 h]
          · rw [if_neg h, if_neg]
            intro e
            -- c = wrap (a * b), |c| ≤ 2^63; c tdiv b = a
            have hc : -9223372036854775808 ≤ wrap64 (a * b) ∧ wrap64 (a * b) ≤ 9223372036854775807 := by unfold wrap64; omega
            have hcm : ∃ z, wrap64 (a * b) = a * b + 18446744073709551616 * z := by
              refine ⟨-((a * b + 9223372036854775808) / 18446744073709551616), ?_⟩
              unfold wrap64; omega
            obtain ⟨z, hz⟩ := hcm
            generalize hcc : wrap64 (a * b) = c at *
            have hb2 : b ≠ 1 := fun hb2 => h (by subst hb2; simpa using ha)
            have hq1 := Int.tdiv_mul_add_tmod c b
            have hq2 : (Int.tmod c b).natAbs < b.natAbs := by
              rw [Int.natAbs_tmod]; exact Nat.mod_lt _ (by omega)
            have hq3 : (Int.tdiv c b).natAbs = c.natAbs / b.natAbs := Int.natAbs_tdiv c b
            have hq4 : c.natAbs / b.natAbs ≤ c.natAbs / 2 := Nat.div_le_div_left (by omega) (by omega)
            generalize c.natAbs / b.natAbs = q at *
            have hw : wrap64 (Int.tdiv c b) = Int.tdiv c b := w64 (by omega)
            rw [hw] at e
            rw [e] at hq1
            omega
theorem tdiv_facts (a b : Int) : a.tdiv b * b + a.tmod b = a ∧ (0 ≤ a → 0 ≤ a.tmod b ∧ a.tmod b ≤ a) ∧ (a < 0 → a ≤ a.tmod b ∧ a.tmod b ≤ 0) ∧ (a.tdiv b).natAbs = a.natAbs / b.natAbs ∧ (b ≠ 0 → (a.tmod b).natAbs < b.natAbs) := by
  have h1 := Int.natAbs_tmod a b
  have h2 := Nat.mod_le a.natAbs b.natAbs
  refine ⟨Int.tdiv_mul_add_tmod a b, ?_, ?_, Int.natAbs_tdiv a b, ?_⟩
  · intro h
    have := Int.tmod_nonneg b h
    omega
  · intro h
    have h3 : 0 ≤ (-a).tmod b := Int.tmod_nonneg b (by omega)
    rw [Int.neg_tmod] at h3
    omega
  · intro h
    rw [h1]; exact Nat.mod_lt _ (by omega)
/-- The quotient and the rest of numbers of 64 bits. -/
theorem div_eq (a b : Int) (ha : -9223372036854775808 ≤ a ∧ a ≤ 9223372036854775807) (hb : -9223372036854775808 ≤ b ∧ b ≤ 9223372036854775807) :
    arith_Div.f a b = if b = 0 then some (0, 32) else if a = -9223372036854775808 ∧ b = -1 then some (0, 31) else some (a.tdiv b, 0) := by
  unfold arith_Div.f
  by_cases h0 : b = 0
  · rw [if_pos h0, if_pos h0]
  · rw [if_neg h0, if_neg h0]
    by_cases h1 : b = -1
    · rw [if_pos h1, neg_eq a ha]
      by_cases h2 : a = -9223372036854775808
      · rw [if_neg (by omega), if_pos ⟨h2, h1⟩]; rfl
      · rw [if_pos (by omega), if_neg (by omega)]
        have : a.tdiv b = -a := by subst h1; simp [Int.tdiv_neg]
        rw [this]; rfl
    · rw [if_neg h1, if_neg (by omega)]
      have := (tdiv_facts a b).2.2.2.1
      have h4 : a.natAbs / b.natAbs ≤ a.natAbs := Nat.div_le_self _ _
      have h5 : b.natAbs ≠ 1 → a.natAbs / b.natAbs ≤ a.natAbs / 2 := fun h => Nat.div_le_div_left (by omega) (by omega)
      rw [w64]
      by_cases h6 : b.natAbs = 1
      · have : b = 1 := by omega
        subst this; simp only [Int.tdiv_one]; omega
      · have := h5 h6; omega
theorem mod_eq (a b : Int) : arith_Mod.f a b = if b = 0 then some (0, 32) else some (a.tmod b, 0) := by
  unfold arith_Mod.f
  by_cases h0 : b = 0
  · rw [if_pos h0, if_pos h0]
  · rw [if_neg h0, if_neg h0]
    by_cases h1 : b = -1
    · rw [if_pos h1]; subst h1; simp [Int.tmod_neg]
    · rw [if_neg h1]
theorem truth_eq (p : Bool) : arith_truth.f p = some (if p then 1 else 0) := by cases p <;> rfl

theorem radd_eq (a b : Int) (ha : -9223372036854775808 ≤ a ∧ a ≤ 9223372036854775807) (hb : -9223372036854775808 ≤ b ∧ b ≤ 9223372036854775807) :
    signalboxref1_Add.f a b = if -9223372036854775808 ≤ a + b ∧ a + b ≤ 9223372036854775807 then some (a + b, 0) else some (0, 31) := by
  unfold signalboxref1_Add.f
  by_cases h : -9223372036854775808 ≤ a + b ∧ a + b ≤ 9223372036854775807
  · rw [w64 h, if_pos h]
    by_cases c1 : b > 0
    · rw [if_pos c1, w64 (by omega), if_neg (by omega), if_neg (by omega)]
    · rw [if_neg c1]
      by_cases c2 : b < 0
      · rw [if_pos c2, w64 (by omega), if_neg (by omega)]
      · rw [if_neg c2]
  · rw [if_neg h]
    by_cases c1 : b > 0
    · rw [if_pos c1, w64 (x := 9223372036854775807 - b) (by omega), if_pos (by omega)]
    · rw [if_neg c1]
      by_cases c2 : b < 0
      · rw [if_pos c2, w64 (x := -9223372036854775808 - b) (by omega), if_pos (by omega)]
      · exfalso; omega
theorem rsub_eq (a b : Int) (ha : -9223372036854775808 ≤ a ∧ a ≤ 9223372036854775807) (hb : -9223372036854775808 ≤ b ∧ b ≤ 9223372036854775807) :
    signalboxref1_Sub.f a b = if -9223372036854775808 ≤ a - b ∧ a - b ≤ 9223372036854775807 then some (a - b, 0) else some (0, 31) := by
  unfold signalboxref1_Sub.f
  by_cases h : -9223372036854775808 ≤ a - b ∧ a - b ≤ 9223372036854775807
  · rw [w64 h, if_pos h]
    by_cases c1 : b < 0
    · rw [if_pos c1, w64 (by omega), if_neg (by omega), if_neg (by omega)]
    · rw [if_neg c1]
      by_cases c2 : b > 0
      · rw [if_pos c2, w64 (by omega), if_neg (by omega)]
      · rw [if_neg c2]
  · rw [if_neg h]
    by_cases c1 : b < 0
    · rw [if_pos c1, w64 (x := 9223372036854775807 + b) (by omega), if_pos (by omega)]
    · rw [if_neg c1]
      by_cases c2 : b > 0
      · rw [if_pos c2, w64 (x := -9223372036854775808 + b) (by omega), if_pos (by omega)]
      · exfalso; omega
theorem size_eq (a : Int) (ha : -9223372036854775808 ≤ a ∧ a ≤ 9223372036854775807) : signalboxref1_size.f a = some (a.natAbs : Int) := by
  unfold signalboxref1_size.f
  by_cases h : a < 0
  · rw [if_pos h, w64 (x := a + 1) (by omega), w64 (by omega), IntWalk.u64_in (-(a + 1)) (by omega), IntWalk.u64_in _ (by omega)]
    congr 1; omega
  · rw [if_neg h, IntWalk.u64_in _ (by omega)]; congr 1; omega
theorem wu64 (n : Nat) (h : n < 18446744073709551616) : IntKind.u64.wrap (n : Int) = (n : Int) := IntWalk.u64_in _ (by omega)
theorem wu64m (n : Nat) : IntKind.u64.wrap (n : Int) = ((n % 18446744073709551616 : Nat) : Int) := by
  simp [IntKind.wrap, IntKind.bits, IntKind.signed]
theorem mask32 (n : Nat) (h : n < 18446744073709551616) : Go.bits .and .u64 (n : Int) 4294967295 = ((n % 4294967296 : Nat) : Int) := by
  have := bits_mask .u64 64 (by decide) (fun m h0 h1 => IntWalk.u64_in m (by omega)) 32 (by decide) (n : Int) (by omega) (by omega)
  simpa using this
theorem mul64_eq (x y : Nat) (hx : x < 18446744073709551616) (hy : y < 18446744073709551616) :
    bits_Mul64.f (x : Int) (y : Int) = some (((x * y / 18446744073709551616 : Nat) : Int), ((x * y % 18446744073709551616 : Nat) : Int)) := by
  obtain ⟨h1, h2, h3, h4⟩ := Go.Lib.mul64_hi x y hx hy
  unfold bits_Mul64.f
  rw [mask32 x hx, mask32 y hy]
  have d1 : ((x : Int) / 4294967296) = ((x / 4294967296 : Nat) : Int) := by omega
  have d2 : ((y : Int) / 4294967296) = ((y / 4294967296 : Nat) : Int) := by omega
  rw [d1, d2]
  have c1 : ∀ p q : Nat, ((p : Int) * (q : Int)) = ((p * q : Nat) : Int) := fun p q => by simp
  have c2 : ∀ p q : Nat, ((p : Int) + (q : Int)) = ((p + q : Nat) : Int) := fun p q => by simp
  have c3 : ∀ p : Nat, ((p : Int) / 4294967296) = ((p / 4294967296 : Nat) : Int) := fun p => by omega
  have ha := Go.Lib.half_mul_le (a := x / 4294967296) (b := y / 4294967296) (by omega) (by omega)
  have hb := Go.Lib.half_mul_le (a := x / 4294967296) (b := y % 4294967296) (by omega) (by omega)
  have hc := Go.Lib.half_mul_le (a := x % 4294967296) (b := y / 4294967296) (by omega) (by omega)
  simp only [c1]
  rw [wu64 _ h1, wu64 (x / 4294967296 * (y / 4294967296)) (by omega), wu64 (x / 4294967296 * (y % 4294967296)) (by omega), wu64 (x % 4294967296 * (y / 4294967296)) (by omega), wu64m (x * y)]
  simp only [c3, c2]
  rw [wu64 _ h2]
  rw [mask32 _ h2]
  simp only [c3, c2]
  have h5 : x / 4294967296 * (y / 4294967296) + (x / 4294967296 * (y % 4294967296) + x % 4294967296 * (y % 4294967296) / 4294967296) / 4294967296 < 18446744073709551616 := by omega
  rw [wu64 _ h5, wu64 _ h3]
  simp only [c3, c2]
  have h6 : x * y / 18446744073709551616 < 18446744073709551616 := by
    rw [Nat.div_lt_iff_lt_mul (by omega)]
    exact Nat.lt_of_le_of_lt (Nat.mul_le_mul (Nat.le_of_lt_succ (by omega : x < 18446744073709551615 + 1)) (Nat.le_of_lt_succ (by omega : y < 18446744073709551615 + 1))) (by omega)
  rw [h4, wu64 _ h6]
/-- The reference's product. -/
theorem rmul_eq (k : Nat) (a b : Int) (ha : -9223372036854775808 ≤ a ∧ a ≤ 9223372036854775807) (hb : -9223372036854775808 ≤ b ∧ b ≤ 9223372036854775807) :
    signalboxref1_Mul.f (k + 2) a b = if -9223372036854775808 ≤ a * b ∧ a * b ≤ 9223372036854775807 then some (a * b, 0) else some (0, 31) := by
  unfold signalboxref1_Mul.f
  rw [size_eq a ha, size_eq b hb]
  simp only [Option.bind_some]
  rw [mul64_eq _ _ (by omega) (by omega)]
  simp only [Option.bind_some]
  have hm : a.natAbs * b.natAbs = (a * b).natAbs := (Int.natAbs_mul a b).symm
  rw [hm]
  have dm := Nat.div_add_mod (a * b).natAbs 18446744073709551616
  have ml := Nat.mod_lt (a * b).natAbs (show 18446744073709551616 > 0 by omega)
  -- its sign
  have sgn : (((decide (a < 0)) != (decide (b < 0))) = true ∧ a ≠ 0 ∧ b ≠ 0 ∧ a * b < 0) ∨ (((decide (a < 0)) != (decide (b < 0))) = true ∧ a = 0 ∧ 0 ≤ a * b) ∨ (((decide (a < 0)) != (decide (b < 0))) = true ∧ a ≠ 0 ∧ b = 0 ∧ 0 ≤ a * b) ∨ ((((decide (a < 0)) != (decide (b < 0))) = true → False) ∧ 0 ≤ a * b) := by
    by_cases h1 : a < 0 <;> by_cases h2 : b < 0
    · right; right; right; exact ⟨by simp [h1, h2], Int.le_of_lt (Int.mul_pos_of_neg_of_neg h1 h2)⟩
    · by_cases h3 : b = 0
      · right; right; left; subst h3; exact ⟨by simp [h1], by omega, rfl, by simp⟩
      · left; exact ⟨by simp [h1, h2], by omega, h3, Int.mul_neg_of_neg_of_pos h1 (by omega)⟩
    · by_cases h3 : a = 0
      · right; left; subst h3; exact ⟨by simp [h2], rfl, by simp⟩
      · left; exact ⟨by simp [h1, h2], h3, by omega, Int.mul_neg_of_pos_of_neg (by omega) h2⟩
    · right; right; right; exact ⟨by simp [h1, h2], Int.mul_nonneg (by omega) (by omega)⟩
  generalize hp : a * b = p at *
  have pos : 0 ≤ p → signalboxref1_Mul.j0 (k + 2) ((p.natAbs / 18446744073709551616 : Nat) : Int) ((p.natAbs % 18446744073709551616 : Nat) : Int) false = if -9223372036854775808 ≤ p ∧ p ≤ 9223372036854775807 then some (p, 0) else some (0, 31) := by
    intro h
    simp only [signalboxref1_Mul.j0]
    rw [if_neg (by simp)]
    by_cases c : p ≤ 9223372036854775807
    · rw [if_pos (by omega), if_neg (by omega), if_pos (by omega), w64 (by omega)]; congr 2; omega
    · rw [if_neg (c := -9223372036854775808 ≤ p ∧ p ≤ 9223372036854775807) (by omega)]
      by_cases c2 : ((p.natAbs / 18446744073709551616 : Nat) : Int) = 0
      · rw [if_pos c2, if_pos (by omega)]
      · rw [if_neg c2]
  rcases sgn with ⟨s, n1, n2, n3⟩ | ⟨s, n1, n3⟩ | ⟨s, n1, n2, n3⟩ | ⟨s, n3⟩
  · rw [if_pos s, if_neg n1]
    have : (b != 0) = true := by simp [n2]
    rw [this]
    simp only [signalboxref1_Mul.j0, if_true]
    by_cases c : -9223372036854775808 ≤ p
    · rw [if_pos (by omega), if_pos (by omega)]
      have : decide (((p.natAbs % 18446744073709551616 : Nat) : Int) > 9223372036854775808) = false := by simp; omega
      rw [this]
      simp only [signalboxref1_Mul.j1]
      rw [if_neg (by simp)]
      by_cases c2 : p = -9223372036854775808
      · rw [if_pos (by omega), c2]
      · rw [if_neg (by omega), w64 (x := ((p.natAbs % 18446744073709551616 : Nat) : Int)) (by omega), w64 (by omega)]; congr 2; omega
    · rw [if_neg (c := -9223372036854775808 ≤ p ∧ p ≤ 9223372036854775807) (by omega)]
      by_cases c2 : ((p.natAbs / 18446744073709551616 : Nat) : Int) = 0
      · rw [if_pos c2]
        have : decide (((p.natAbs % 18446744073709551616 : Nat) : Int) > 9223372036854775808) = true := by simp; omega
        rw [this]
        simp only [signalboxref1_Mul.j1, if_true]
      · rw [if_neg c2]
        simp only [signalboxref1_Mul.j1, if_true]
  · rw [if_pos s, if_pos n1, pos n3]
  · rw [if_pos s, if_neg n1]
    have : (b != 0) = false := by simp [n2]
    rw [this, pos n3]
  · rw [if_neg s, pos n3]
theorem rdiv_eq (a b : Int) (ha : -9223372036854775808 ≤ a ∧ a ≤ 9223372036854775807) (hb : -9223372036854775808 ≤ b ∧ b ≤ 9223372036854775807) :
    signalboxref1_Div.f a b = arith_Div.f a b := by
  rw [div_eq a b ha hb]
  unfold signalboxref1_Div.f
  by_cases h0 : b = 0
  · rw [if_pos h0, if_pos h0]
  · rw [if_neg h0, if_neg h0]
    obtain ⟨f1, f2, f3, f4, f5⟩ := tdiv_facts a b
    have h6 : a.natAbs / b.natAbs ≤ a.natAbs := Nat.div_le_self _ _
    have h7 : b.natAbs ≠ 1 → a.natAbs / b.natAbs ≤ a.natAbs / 2 := fun h => Nat.div_le_div_left (by omega) (by omega)
    have key : ¬ (a = -9223372036854775808 ∧ b = -1) → wrap64 (a.tdiv b) = a.tdiv b := by
      intro h
      apply w64
      by_cases h8 : b.natAbs = 1
      · by_cases h9 : b = 1
        · subst h9; simp only [Int.tdiv_one]; omega
        · have h10 : b = -1 := by omega
          subst h10; simp only [Int.tdiv_neg, Int.tdiv_one]; omega
      · have := h7 h8; omega
    by_cases c1 : a = -9223372036854775808
    · rw [if_pos c1]
      by_cases c2 : b = -1
      · rw [if_pos c2, if_pos ⟨c1, c2⟩]
      · rw [if_neg c2, if_neg (by omega), key (by omega)]
    · rw [if_neg c1, if_neg (by omega), key (by omega)]
theorem rmod_eq (a b : Int) : signalboxref1_Mod.f a b = arith_Mod.f a b := rfl
theorem rneg_eq (a : Int) (ha : -9223372036854775808 ≤ a ∧ a ≤ 9223372036854775807) : signalboxref1_Sub.f 0 a = arith_Neg.f a := by
  rw [rsub_eq 0 a (by omega) ha, neg_eq a ha]; simp only [Int.zero_sub]
theorem some_ite (c : Prop) [Decidable c] (x y : Int × Int) : ∃ r : Int × Int, (if c then some x else some y) = some r := by split <;> exact ⟨_, rfl⟩

end AArithAsks
open AArithAsks

theorem ArithAsks : signalboxlaw1_ArithAsks.Pure := by
  intro a b wa wb
  have ha := bounds_i64 wa
  have hb := bounds_i64 wb
  refine ⟨5, ?_⟩
  unfold signalboxlaw1_ArithAsks.f
  rw [radd_eq a b ha hb, ← add_eq a b ha hb, rsub_eq a b ha hb, ← sub_eq a b ha hb, rmul_eq 3 a b ha hb, ← mul_eq 4 a b ha hb, rdiv_eq a b ha hb, rmod_eq a b, rneg_eq a ha]
  obtain ⟨r1, e1⟩ : ∃ r, arith_Add.f a b = some r := by rw [add_eq a b ha hb]; exact some_ite _ _ _
  obtain ⟨r2, e2⟩ : ∃ r, arith_Sub.f a b = some r := by rw [sub_eq a b ha hb]; exact some_ite _ _ _
  obtain ⟨r3, e3⟩ : ∃ r, arith_Mul.f (4 + 1) a b = some r := by rw [mul_eq 4 a b ha hb]; exact some_ite _ _ _
  obtain ⟨r4, e4⟩ : ∃ r, arith_Div.f a b = some r := by rw [div_eq a b ha hb]; split; exact ⟨_, rfl⟩; exact some_ite _ _ _
  obtain ⟨r5, e5⟩ : ∃ r, arith_Mod.f a b = some r := by rw [mod_eq a b]; exact some_ite _ _ _
  obtain ⟨r6, e6⟩ : ∃ r, arith_Neg.f a = some r := by rw [neg_eq a ha]; exact some_ite _ _ _
  rw [e1, e2, e3, e4, e5, e6]
  simp only [Option.bind_some, if_true, awake_ok, awake_ok4]

end Go.Proofs.Ytmjljnkkeofngaa.Pure
