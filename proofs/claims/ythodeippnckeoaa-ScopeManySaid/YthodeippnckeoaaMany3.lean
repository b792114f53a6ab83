/- What is proved: 'signalboxlaw26.ScopeMany' hands back true, whatever the input. -/
import Derived.Test.YthodeippnckeoaaManyL
import Derived.Test.YthodeippnckeoaaMany2
import Derived.Test.YthodeippnckeoaaFEq
namespace Go.Vm.Scope
open Go Go.Proofs Go.Vm.Parse Go.Vm.ScopeLaw
set_option maxRecDepth 100000
set_option maxHeartbeats 4000000
set_option linter.unusedSimpArgs false
set_option linter.unusedVariables false
attribute [local simp] repCells_succ writeAt rd_Fr toList_beq gpe gpn spe gse gsn ne_r0 ne_l0 le_s0 ne_r1 ne_l1 lt_s1 le_s1 ne_r2 ne_l2 lt_s2 le_s2 ne_r3 ne_l3 lt_s3 le_s3 ne_r4 ne_l4 lt_s4 le_s4 ne_r5 ne_l5 lt_s5 le_s5 ne_r6 ne_l6 lt_s6 le_s6 ne_r7 ne_l7 lt_s7 le_s7
theorem pl_many : planOf Try.prog (drawN Try.f4 0) = some [(some (0, 2)), (some (0, 2)), (some (0, 2)), (some (0, 2)), (some (0, 2)), (some (0, 2)), none, none, none, none, none, none, none, none, none, none, none, none] := by decide +kernel
theorem c_many (args : List Value) (H : Heap) : (run Try.prog E1).call 4 args H = callB Try.prog E1 Try.f4 args H := call_B Try.func4 rfl (by decide +kernel) rfl args H
theorem bin_quo20 (ty : TypeId) (x y : Operand) (a : Int) : exBin Try.prog .quo ty x y (.int .i64 a) (.int .i64 20) = some (.int .i64 (IntKind.i64.wrap (a.tdiv 20))) := bin_quo ty x y .i64 a 20 (by decide)
theorem bin_rem20 (ty : TypeId) (x y : Operand) (a : Int) : exBin Try.prog .rem ty x y (.int .i64 a) (.int .i64 20) = some (.int .i64 (a.tmod 20)) := bin_rem ty x y .i64 a 20 (by decide)
theorem bin_cat (x y : Operand) (a b : ByteArray) (h : a.size + b.size ≤ 100000) : exBin Try.prog .add 9 x y (.string a) (.string b) = some (.string (a ++ b)) := by
  have e : Op.stringOp .add a b = pure (.string (a ++ b)) := by
    show (if ((a.size + b.size : Nat) : Int) > IntKind.i64.max then _ else _) = _
    rw [if_neg (by have : IntKind.i64.max = 9223372036854775807 := rfl; omega)]
  simp only [exBin, ground_string, Bool.and_self]
  rw [pureRun_bind _ (eqGuard .add 9 x y (.string a) (.string b)) () rfl]
  show ifGround (pureRun Try.prog (Op.stringOp .add a b)) = _
  rw [e]
  rfl
theorem conv_byte (a : Int) (H : Heap) : exConvert Try.prog 3 5 (.int .i64 a) H = some (.int .u8 (IntKind.u8.wrap a), H) := by
  simp [exConvert]
  unfold convert
  rw [pureRun_bind _ _ _ (pureRun_underlying (d := .int .i64) (by simp)), pureRun_bind _ _ _ (pureRun_underlying (d := .int .u8) (by simp))]
  rfl
theorem txt_size (k : Nat) : ∀ i, (txt k i).size ≤ 11 + 20 * i
  | 0 => by show 11 ≤ _; omega
  | i + 1 => by
    have ih := txt_size k i
    have hw : (wordK k).size ≤ 10 := by unfold wordK; split <;> decide
    have e1 : (⟨#[110]⟩ : ByteArray).size = 1 := rfl
    have e2 : (two i).size = 2 := rfl
    have e3 : (⟨#[32, 49]⟩ : ByteArray).size = 2 := rfl
    have e4 : (⟨#[59, 32]⟩ : ByteArray).size = 2 := rfl
    simp only [txt]
    split <;> simp only [ByteArray.size_append, e1, e2, e3, e4] <;> omega
theorem w8 (a : Nat) (h : a < 256) : IntKind.u8.wrap (a : Int) = a := by
  unfold IntKind.wrap
  simp [IntKind.signed, IntKind.bits]
  omega
theorem two_conv (i : Nat) (hi : i < 400) (K : Heap) : exConvert Try.prog 22 9 (.slice (some ⟨K.n, 0, none⟩) 2 2) (K.push (.row true 0 1 [.int .u8 (97 + ((i / 20 : Nat) : Int)), .int .u8 (97 + ((i % 20 : Nat) : Int))])) = some (.string (two i), K.push (.row true 0 1 [.int .u8 (97 + ((i / 20 : Nat) : Int)), .int .u8 (97 + ((i % 20 : Nat) : Int))])) := by
  have h1 : (UInt8.ofNat (97 + i / 20)).toNat = 97 + i / 20 := by rw [UInt8.toNat_ofNat']; omega
  have h2 : (UInt8.ofNat (97 + i % 20)).toNat = 97 + i % 20 := by rw [UInt8.toNat_ofNat']; omega
  refine Parse.conv_str (l := [UInt8.ofNat (97 + i / 20), UInt8.ofNat (97 + i % 20)]) ⟨true, 0, 1, _, Heap.get_push_self _ _, by simp, by simp, ?_⟩ 2 rfl
  simp only [List.drop_zero, List.map_cons, List.map_nil, byteC, h1, h2]
  simp
theorem conv_text (x : ByteArray) (H : Heap) : exConvert Try.prog 9 22 (.string x) H = some (.slice (some ⟨H.n, 0, none⟩) x.size x.size, H.push (.row true 1 1 (bytesOf x))) := by
  simp [exConvert]
theorem text_BS (x : ByteArray) (H : Heap) : BS (H.push (.row true 1 1 (bytesOf x))) H.n 0 x.size x.data.toList := by
  obtain ⟨⟨l⟩⟩ := x
  refine ⟨true, 1, 1, _, Heap.get_push_self _ _, ?_, ?_, ?_⟩
  · simp [bytesOf]
  · simp [ByteArray.size]
  · simp [bytesOf]
    rw [List.take_of_length_le (by simp)]
    rfl
def atK (k : Nat) : Int := ((txt k (mostK k)).size + (wordK k).size : Nat)
def ManyI (k n : Nat) (H : Heap) (m : Nat) (t : List Value) (K : Heap) : Prop :=
  ∃ i, i ≤ n ∧ m = n - i ∧ rd t 10 = .int .i64 i ∧ rd t 8 = .string (txt k i) ∧ rd t 9 = .int .i64 (if mostK k < i then atK k else 0) ∧ Same (fun _ => False) H K ∧
    K.get H.n = .row true 0 1 [.string (wordK 0), .string (wordK 1), .string (wordK 2), .string (wordK 3)] ∧ K.get (H.n + 1) = .row true 0 1 [.int .i64 6, .int .i64 8, .int .i64 16, .int .i64 16]
theorem many_walk (chk_all : ∀ {k n : Nat}, k ≤ 3 → 1 ≤ n → n ≤ 40 → chk k n = true) (kind : Int) (hkind : Lit.wf (.int .i64 kind) = true) (num : Int) (hnum : Lit.wf (.int .i64 num) = true) : Gives ((run Try.prog E1).call 4 [.int .i64 kind, .int .i64 num] Heap.empty) fun o _ => o = .val (.bool true) := by
  rw [c_many, callB, bodyOf]
  have aw : ∀ H, (run Try.prog E1).call 9 [] H = some (.val (.bool true), H) := awake_true
  by_cases c1 : num < 1
  · simp [Try.f4, c1, aw]
  by_cases c2 : 40 < num
  · simp [Try.f4, c1, c2, aw]
  obtain ⟨n, rfl⟩ : ∃ n : Nat, num = n := ⟨num.toNat, by omega⟩
  have hn1 : 1 ≤ n := by omega
  have hn2 : n ≤ 40 := by omega
  obtain ⟨k, hk, ek⟩ := within_run kind hkind Heap.empty
  have hchk := chk_all hk hn1 hn2
  simp [Try.f4, c1, c2, ek]
  refine loop_mid (ManyI k n Heap.empty 0) (ManyI k n Heap.empty) n ?_ ?_ ?_
  · refine ⟨0, Nat.zero_le _, by simp, by simp, by simp [txt], by simp, ?_, by simp [Heap.get_push, wordK], by simp [Heap.get_push]⟩
    exact Same.then_set (Same.then_set ((Same.push _ _ _).then_push _) (by simp) (.inr (by simp)) _) (by simp) (.inr (by simp)) _
  · rintro m t K hkp ⟨i, hin, rfl, g10, g8, g9, hS, gw, gm⟩
    have ht : t.length = 99 := hkp.1.trans (by simp [len_Bs])
    have hh := hkp.all [1, 5, 6, 7] (by decide +kernel)
    simp at hh
    obtain ⟨u1, u5, u6, u7⟩ := hh
    have t0 : Heap.empty.n < K.n := Heap.lt_of_get gw (by simp)
    have t1 : Heap.empty.n + 1 < K.n := Heap.lt_of_get gm (by simp)
    rcases Nat.lt_or_ge i n with hlt | hge
    · have hq : (i : Int).tdiv 20 = ((i / 20 : Nat) : Int) := by rw [Int.tdiv_eq_ediv_of_nonneg (by omega)]; rfl
      have hr : (i : Int).tmod 20 = ((i % 20 : Nat) : Int) := by rw [Int.tmod_eq_emod_of_nonneg (by omega)]; rfl
      have w1 : IntKind.i64.wrap ((i / 20 : Nat) : Int) = ((i / 20 : Nat) : Int) := wrap64 _ (by omega) (by omega)
      have w2 : IntKind.i64.wrap (97 + ((i / 20 : Nat) : Int)) = 97 + ((i / 20 : Nat) : Int) := wrap64 _ (by omega) (by omega)
      have w3 : IntKind.i64.wrap (97 + ((i % 20 : Nat) : Int)) = 97 + ((i % 20 : Nat) : Int) := wrap64 _ (by omega) (by omega)
      have w4 : IntKind.i64.wrap ((i : Int) + 1) = (i : Int) + 1 := wrap64 _ (by omega) (by omega)
      have w5 : IntKind.u8.wrap (97 + ((i / 20 : Nat) : Int)) = 97 + ((i / 20 : Nat) : Int) := by have := w8 (97 + i / 20) (by omega); simpa using this
      have w6 : IntKind.u8.wrap (97 + ((i % 20 : Nat) : Int)) = 97 + ((i % 20 : Nat) : Int) := by have := w8 (97 + i % 20) (by omega); simpa using this
      have tc := two_conv i (by omega) K
      have hsz := txt_size k i
      have hwz : (wordK k).size ≤ 10 := by unfold wordK; split <;> decide
      have f1 := fun x y => bin_cat x y (txt k i) (wordK k) (by omega)
      have f2 := fun x y => bin_cat x y (txt k i ++ wordK k) ⟨#[110]⟩ (by rw [ByteArray.size_append]; have : (⟨#[110]⟩ : ByteArray).size = 1 := rfl; omega)
      have z3 : (txt k i ++ wordK k ++ ⟨#[110]⟩).size ≤ 1000 := by rw [ByteArray.size_append, ByteArray.size_append]; have : (⟨#[110]⟩ : ByteArray).size = 1 := rfl; omega
      have f3 := fun x y => bin_cat x y (txt k i ++ wordK k ++ ⟨#[110]⟩) (two i) (by have : (two i).size = 2 := rfl; omega)
      have z4 : (txt k i ++ wordK k ++ ⟨#[110]⟩ ++ two i).size ≤ 1002 := by rw [ByteArray.size_append]; have : (two i).size = 2 := rfl; omega
      have f4 := fun x y => bin_cat x y (txt k i ++ wordK k ++ ⟨#[110]⟩ ++ two i) ⟨#[32, 49]⟩ (by have : (⟨#[32, 49]⟩ : ByteArray).size = 2 := rfl; omega)
      have f5 := fun x y => bin_cat x y (txt k i ++ wordK k ++ ⟨#[110]⟩ ++ two i) ⟨#[59, 32]⟩ (by have : (⟨#[59, 32]⟩ : ByteArray).size = 2 := rfl; omega)
      have z5 : (txt k i ++ wordK k ++ ⟨#[110]⟩ ++ two i ++ ⟨#[32, 49]⟩).size ≤ 1004 := by rw [ByteArray.size_append]; have : (⟨#[32, 49]⟩ : ByteArray).size = 2 := rfl; omega
      have f6 := fun x y => bin_cat x y (txt k i ++ wordK k ++ ⟨#[110]⟩ ++ two i ++ ⟨#[32, 49]⟩) ⟨#[59, 32]⟩ (by have : (⟨#[59, 32]⟩ : ByteArray).size = 2 := rfl; omega)
      have hnext : txt k (i + 1) = (if k < 2 then txt k i ++ wordK k ++ ⟨#[110]⟩ ++ two i ++ ⟨#[32, 49]⟩ else txt k i ++ wordK k ++ ⟨#[110]⟩ ++ two i) ++ ⟨#[59, 32]⟩ := rfl
      generalize i / 20 = A at *
      generalize i % 20 = B at *
      rcases (show k = 0 ∨ k = 1 ∨ k = 2 ∨ k = 3 by omega) with rfl | rfl | rfl | rfl
      · have w7 : IntKind.i64.wrap (((txt 0 i).size : Int) + ((wordK 0).size : Int)) = ((txt 0 i).size : Int) + ((wordK 0).size : Int) := wrap64 _ (by omega) (by omega)
        simp [ht, u1, u5, u6, u7, g10, g8, g9, hlt, gm, gw]
        refine ends_cond (fun hb => ?_) (fun hb => ?_)
        · have hi : i = 6 := by simp at hb; omega
          simp [ht, u1, u5, u6, u7, g10, g8, g9, hlt, gm, gw, w7]
          refine region_plan (by exact pl_many) ?_
          simp [ht, u1, u5, u6, u7, g10, g8, g9, hlt, gm, gw, w7, f1, f2, f3, f4, f6, conv_byte, tc, bin_quo20, bin_rem20, hq, hr, w1, w2, w3, w4, w5, w6, t0, t1]
          refine ⟨n - (i + 1), by omega, i + 1, by omega, rfl, by simp [ht], by simp [ht, hnext], ?_, hS.then_push _, by rw [Heap.get_push, if_neg (by omega)]; exact gw, by rw [Heap.get_push, if_neg (by omega)]; exact gm⟩
          rw [if_pos (show mostK 0 < i + 1 by show 6 < i + 1; omega)]
          have : atK 0 = ((txt 0 i).size : Int) + ((wordK 0).size : Int) := by rw [hi]; unfold atK; rw [Int.natCast_add]; rfl
          simp [ht, this]
        · have hi : ¬ i = 6 := by simp at hb; omega
          simp [ht, u1, u5, u6, u7, g10, g8, g9, hlt, gm, gw]
          refine region_plan (by exact pl_many) ?_
          simp [ht, u1, u5, u6, u7, g10, g8, g9, hlt, gm, gw, f1, f2, f3, f4, f6, conv_byte, tc, bin_quo20, bin_rem20, hq, hr, w1, w2, w3, w4, w5, w6, t0, t1]
          refine ⟨n - (i + 1), by omega, i + 1, by omega, rfl, by simp [ht], by simp [ht, hnext], ?_, hS.then_push _, by rw [Heap.get_push, if_neg (by omega)]; exact gw, by rw [Heap.get_push, if_neg (by omega)]; exact gm⟩
          have hm : (mostK 0 < i + 1) ↔ (mostK 0 < i) := by show 6 < i + 1 ↔ 6 < i; omega
          simp only [hm]
          simp [ht, g9]
      · have w7 : IntKind.i64.wrap (((txt 1 i).size : Int) + ((wordK 1).size : Int)) = ((txt 1 i).size : Int) + ((wordK 1).size : Int) := wrap64 _ (by omega) (by omega)
        simp [ht, u1, u5, u6, u7, g10, g8, g9, hlt, gm, gw]
        refine ends_cond (fun hb => ?_) (fun hb => ?_)
        · have hi : i = 8 := by simp at hb; omega
          simp [ht, u1, u5, u6, u7, g10, g8, g9, hlt, gm, gw, w7]
          refine region_plan (by exact pl_many) ?_
          simp [ht, u1, u5, u6, u7, g10, g8, g9, hlt, gm, gw, w7, f1, f2, f3, f4, f6, conv_byte, tc, bin_quo20, bin_rem20, hq, hr, w1, w2, w3, w4, w5, w6, t0, t1]
          refine ⟨n - (i + 1), by omega, i + 1, by omega, rfl, by simp [ht], by simp [ht, hnext], ?_, hS.then_push _, by rw [Heap.get_push, if_neg (by omega)]; exact gw, by rw [Heap.get_push, if_neg (by omega)]; exact gm⟩
          rw [if_pos (show mostK 1 < i + 1 by show 8 < i + 1; omega)]
          have : atK 1 = ((txt 1 i).size : Int) + ((wordK 1).size : Int) := by rw [hi]; unfold atK; rw [Int.natCast_add]; rfl
          simp [ht, this]
        · have hi : ¬ i = 8 := by simp at hb; omega
          simp [ht, u1, u5, u6, u7, g10, g8, g9, hlt, gm, gw]
          refine region_plan (by exact pl_many) ?_
          simp [ht, u1, u5, u6, u7, g10, g8, g9, hlt, gm, gw, f1, f2, f3, f4, f6, conv_byte, tc, bin_quo20, bin_rem20, hq, hr, w1, w2, w3, w4, w5, w6, t0, t1]
          refine ⟨n - (i + 1), by omega, i + 1, by omega, rfl, by simp [ht], by simp [ht, hnext], ?_, hS.then_push _, by rw [Heap.get_push, if_neg (by omega)]; exact gw, by rw [Heap.get_push, if_neg (by omega)]; exact gm⟩
          have hm : (mostK 1 < i + 1) ↔ (mostK 1 < i) := by show 8 < i + 1 ↔ 8 < i; omega
          simp only [hm]
          simp [ht, g9]
      · have w7 : IntKind.i64.wrap (((txt 2 i).size : Int) + ((wordK 2).size : Int)) = ((txt 2 i).size : Int) + ((wordK 2).size : Int) := wrap64 _ (by omega) (by omega)
        simp [ht, u1, u5, u6, u7, g10, g8, g9, hlt, gm, gw]
        refine ends_cond (fun hb => ?_) (fun hb => ?_)
        · have hi : i = 16 := by simp at hb; omega
          simp [ht, u1, u5, u6, u7, g10, g8, g9, hlt, gm, gw, w7]
          refine region_plan (by exact pl_many) ?_
          simp [ht, u1, u5, u6, u7, g10, g8, g9, hlt, gm, gw, w7, f1, f2, f3, f5, conv_byte, tc, bin_quo20, bin_rem20, hq, hr, w1, w2, w3, w4, w5, w6, t0, t1]
          refine ⟨n - (i + 1), by omega, i + 1, by omega, rfl, by simp [ht], by simp [ht, hnext], ?_, hS.then_push _, by rw [Heap.get_push, if_neg (by omega)]; exact gw, by rw [Heap.get_push, if_neg (by omega)]; exact gm⟩
          rw [if_pos (show mostK 2 < i + 1 by show 16 < i + 1; omega)]
          have : atK 2 = ((txt 2 i).size : Int) + ((wordK 2).size : Int) := by rw [hi]; unfold atK; rw [Int.natCast_add]; rfl
          simp [ht, this]
        · have hi : ¬ i = 16 := by simp at hb; omega
          simp [ht, u1, u5, u6, u7, g10, g8, g9, hlt, gm, gw]
          refine region_plan (by exact pl_many) ?_
          simp [ht, u1, u5, u6, u7, g10, g8, g9, hlt, gm, gw, f1, f2, f3, f5, conv_byte, tc, bin_quo20, bin_rem20, hq, hr, w1, w2, w3, w4, w5, w6, t0, t1]
          refine ⟨n - (i + 1), by omega, i + 1, by omega, rfl, by simp [ht], by simp [ht, hnext], ?_, hS.then_push _, by rw [Heap.get_push, if_neg (by omega)]; exact gw, by rw [Heap.get_push, if_neg (by omega)]; exact gm⟩
          have hm : (mostK 2 < i + 1) ↔ (mostK 2 < i) := by show 16 < i + 1 ↔ 16 < i; omega
          simp only [hm]
          simp [ht, g9]
      · have w7 : IntKind.i64.wrap (((txt 3 i).size : Int) + ((wordK 3).size : Int)) = ((txt 3 i).size : Int) + ((wordK 3).size : Int) := wrap64 _ (by omega) (by omega)
        simp [ht, u1, u5, u6, u7, g10, g8, g9, hlt, gm, gw]
        refine ends_cond (fun hb => ?_) (fun hb => ?_)
        · have hi : i = 16 := by simp at hb; omega
          simp [ht, u1, u5, u6, u7, g10, g8, g9, hlt, gm, gw, w7]
          refine region_plan (by exact pl_many) ?_
          simp [ht, u1, u5, u6, u7, g10, g8, g9, hlt, gm, gw, w7, f1, f2, f3, f5, conv_byte, tc, bin_quo20, bin_rem20, hq, hr, w1, w2, w3, w4, w5, w6, t0, t1]
          refine ⟨n - (i + 1), by omega, i + 1, by omega, rfl, by simp [ht], by simp [ht, hnext], ?_, hS.then_push _, by rw [Heap.get_push, if_neg (by omega)]; exact gw, by rw [Heap.get_push, if_neg (by omega)]; exact gm⟩
          rw [if_pos (show mostK 3 < i + 1 by show 16 < i + 1; omega)]
          have : atK 3 = ((txt 3 i).size : Int) + ((wordK 3).size : Int) := by rw [hi]; unfold atK; rw [Int.natCast_add]; rfl
          simp [ht, this]
        · have hi : ¬ i = 16 := by simp at hb; omega
          simp [ht, u1, u5, u6, u7, g10, g8, g9, hlt, gm, gw]
          refine region_plan (by exact pl_many) ?_
          simp [ht, u1, u5, u6, u7, g10, g8, g9, hlt, gm, gw, f1, f2, f3, f5, conv_byte, tc, bin_quo20, bin_rem20, hq, hr, w1, w2, w3, w4, w5, w6, t0, t1]
          refine ⟨n - (i + 1), by omega, i + 1, by omega, rfl, by simp [ht], by simp [ht, hnext], ?_, hS.then_push _, by rw [Heap.get_push, if_neg (by omega)]; exact gw, by rw [Heap.get_push, if_neg (by omega)]; exact gm⟩
          have hm : (mostK 3 < i + 1) ↔ (mostK 3 < i) := by show 16 < i + 1 ↔ 16 < i; omega
          simp only [hm]
          simp [ht, g9]
    · simp [ht, u1, u5, u6, u7, g10, g8, g9, show ¬ i < n by omega]
      exact ⟨i, hin, by omega, by simp [ht, g10], by simp [ht, g8], by simp [ht, g9], hS, gw, gm⟩
  · rintro t K hkp ⟨i, hin, hm0, g10, g8, g9, hS, gw, gm⟩
    have hi : i = n := by omega
    subst hi
    have ht : t.length = 99 := hkp.1.trans (by simp [len_Bs])
    have hh := hkp.all [1, 5, 6, 7] (by decide +kernel)
    simp at hh
    obtain ⟨u1, u5, u6, u7⟩ := hh
    have hsz := txt_size k i
    have f1 := fun x y => bin_cat x y (txt k i) tailT (by have : tailT.size = 15 := rfl; omega)
    simp only [tailT] at f1
    have hx : (txt k i ++ tailT).size ≤ 4096 := by rw [ByteArray.size_append]; have : tailT.size = 15 := rfl; omega
    have hb := text_BS (txt k i ++ tailT) K
    have hsz2 : (txt k i ++ tailT).data.toList.length = (txt k i ++ tailT).size := rfl
    unfold chk at hchk
    cases hp : parseP noBr (txt k i ++ tailT).data.toList 100 with
    | none => rw [hp] at hchk; cases hchk
    | some res =>
    rw [hp] at hchk
    obtain ⟨oP, KP, eP, kP, hP⟩ := parse_walk plain_E1 (B := noBr) (fun L n lv s b s' h => by cases h) (fun r lid L n lv s b s' h => by cases h) hb (by omega) hp
    rw [hsz2] at eP
    cases res with
    | inr f => cases hchk
    | inl S =>
    simp only [tailT, ByteArray.size_append] at eP
    simp only [Bool.and_eq_true, decide_eq_true_eq] at hchk
    obtain ⟨⟨⟨hpr, hdn⟩, hdl⟩, hbd⟩ := hchk
    have hpr' : S.procs = [] := by simpa using hpr
    obtain ⟨cs, rfl, hRS⟩ := hP
    obtain ⟨y, a1, a2, a3, b1', b2, b3, c1', c2', c3, d1', d2', d3, rfl⟩ := hRS.slices
    have hRS2 : RSrc ((((KP.push (.row true 0 1 (sr5 ByteArray.empty nl nl nl nl))).push (.row true 0 1 [.int .i64 0, .int .i64 0])).set KP.n (.row true 0 1 (sr5 y (.slice a1 a2 a3) (.slice b1' b2 b3) (.slice c1' c2' c3) (.slice d1' d2' d3)))).set (KP.n + 1) (.row true 0 1 [.int .i64 0, .int .i64 0])) (fun j => j < KP.n + 2) S _ :=
      hRS.move (Same.then_set (Same.then_set ((Same.push (fun _ => False) KP _).then_push _) (by simp) (.inr (by simp)) _) (by simp) (.inr (by simp)) _) (fun j hj hlt => ⟨by omega, fun h => h⟩)
    obtain ⟨oB, KB, eB, kB, hB⟩ := build_run plain_E1 (one := fun T _ => .ok T) (.inl hpr') hRS2 (fun d hd => by have := List.all_eq_true.1 hdn d hd; simpa using this) (by omega) (by rw [hpr']; simp)
    simp only [sr5, nl] at eP eB
    simp [ht, u1, u5, u6, u7, g10, g8, g9, f1, conv_text, eP, eB]
    have gm2 : KP.get (Heap.empty.n + 1) = .row true 0 1 [.int .i64 6, .int .i64 8, .int .i64 16, .int .i64 16] := kP.at (by rw [Heap.get_push, if_neg (Nat.ne_of_lt (Heap.lt_of_get gm (by simp)))]; exact gm) (by simp) (fun h => h)
    have tm := Heap.lt_of_get gm2 (by simp)
    have kK : Same (fun _ => False) KP KB := Same.trans (Same.then_set (Same.then_set ((Same.push (fun _ => False) KP _).then_push _) (by simp) (.inr (by simp)) _) (by simp) (.inr (by simp)) _) kB
    have gm3 := kK.at gm2 (by simp) (fun h => h)
    have tm3 := Heap.lt_of_get gm3 (by simp)
    unfold buildP at hB
    cases hdB : declsB tab0 S.decls with
    | error q =>
      obtain ⟨c, a⟩ := q
      rw [hdB] at hB hbd
      simp only [Bool.and_eq_true, decide_eq_true_eq] at hbd
      obtain ⟨⟨hm, rfl⟩, rfl⟩ := hbd
      cases hB
      rcases (show k = 0 ∨ k = 1 ∨ k = 2 ∨ k = 3 by omega) with rfl | rfl | rfl | rfl
      all_goals
        simp [ht, u1, u5, u6, u7, g9, gm3, tm3, aw, mostK, atK]
        refine ends_cond (fun hb => absurd (of_decide_eq_true hb) (by simp only [mostK] at hm; omega)) (fun _ => ?_)
        simp [ht, u1, u5, u6, u7, g9, gm3, tm3, aw, mostK, atK]
        rw [if_pos (by simpa only [mostK] using hm)]
        simp [fault_eql, ht, u1, u5, u6, u7, g9, gm3, tm3, aw, mostK, atK]
    | ok T =>
      rw [hdB, hpr'] at hB
      rw [hdB] at hbd
      simp only [decide_eq_true_eq] at hbd
      obtain ⟨col, tid, nid, pid, rid, x1, x2, x3, x4, x5, rfl, _⟩ := hB
      rcases (show k = 0 ∨ k = 1 ∨ k = 2 ∨ k = 3 by omega) with rfl | rfl | rfl | rfl
      all_goals
        simp [ht, u1, u5, u6, u7, g9, gm3, tm3, aw, mostK, atK]
        refine ends_cond (fun _ => ?_) (fun hb => absurd (of_decide_eq_false hb) (by simp only [mostK] at hbd; omega))
        simp [ht, u1, u5, u6, u7, g9, gm3, tm3, aw, mostK, atK]
end Go.Vm.Scope
