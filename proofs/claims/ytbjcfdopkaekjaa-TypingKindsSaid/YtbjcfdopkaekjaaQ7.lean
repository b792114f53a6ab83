/- What is proved: 'TypingKinds' hands back true, whatever the input. -/
import Derived.Test.YtbjcfdopkaekjaaQ6
set_option maxRecDepth 100000
set_option maxHeartbeats 4000000
set_option linter.unusedSimpArgs false
set_option linter.unusedVariables false
set_option linter.unusedSectionVars false
namespace Go.Vm.Typing
open Go Go.Proofs Go.Vm.Parse Go.Vm.Scope
attribute [local simp] repCells_succ writeAt rd_Fr toList_beq gpe gpn spe gse gsn op_index idxA_str
theorem names_of {k : Nat} (h : k < 7) : ∃ x, namesL[k]? = some x := ⟨namesL[k]'h, by simp [h, namesL]⟩
theorem stmts_of {k : Nat} (h : k < 10) : ∃ x, stmtsL[k]? = some x := ⟨stmtsL[k]'h, by simp [h, stmtsL]⟩
theorem right_of {k : Nat} (h : k < 10) : ∃ x, rightL[k]? = some x := ⟨rightL[k]'h, by simp [h, rightL]⟩
theorem heap27 : ∃ K, K = (((Heap.empty.push (.row true 0 1 [.string ⟨#[114]⟩, .string ⟨#[115]⟩, .string ⟨#[118]⟩, .string ⟨#[119]⟩, .string ⟨#[103]⟩, .string ⟨#[104]⟩, .string ⟨#[113]⟩])).push (.row true 0 1 [.string ⟨#[80, 40, 35, 41]⟩, .string ⟨#[86, 40, 35, 41]⟩, .string ⟨#[114, 101, 113, 117, 101, 115, 116, 32, 35, 32, 49]⟩, .string ⟨#[114, 101, 108, 101, 97, 115, 101, 32, 35, 32, 49]⟩, .string ⟨#[35, 32, 58, 61, 32, 49]⟩, .string ⟨#[35, 91, 49, 93, 32, 58, 61, 32, 49]⟩, .string ⟨#[114, 101, 97, 100, 32, 35]⟩, .string ⟨#[114, 101, 97, 100, 32, 35, 91, 49, 93]⟩, .string ⟨#[114, 101, 103, 105, 111, 110, 32, 35, 32, 100, 111, 32, 115, 107, 105, 112, 32, 111, 100]⟩, .string ⟨#[35, 40, 41]⟩])).push (.row true 0 1 [.string ⟨#[115]⟩, .string ⟨#[115]⟩, .string ⟨#[114]⟩, .string ⟨#[114]⟩, .string ⟨#[103]⟩, .string ⟨#[104]⟩, .string ⟨#[103]⟩, .string ⟨#[104]⟩, .string ⟨#[118, 119]⟩, .string ⟨#[113]⟩])) ∧ K.get Heap.empty.n = .row true 0 1 (namesL.map fun l => Value.string ⟨⟨l⟩⟩) ∧ K.get (Heap.empty.n + 1) = .row true 0 1 (stmtsL.map fun l => Value.string ⟨⟨l⟩⟩) ∧ K.get (Heap.empty.n + 1 + 1) = .row true 0 1 (rightL.map fun l => Value.string ⟨⟨l⟩⟩) := by
 refine ⟨_, rfl, ?_, ?_, ?_⟩
 · rw [Heap.get_push, if_neg (by simp; omega), Heap.get_push, if_neg (by simp), Heap.get_push_self]; rfl
 · rw [Heap.get_push, if_neg (by simp)]; exact Heap.get_push_self (Heap.empty.push _) _
 · exact Heap.get_push_self ((Heap.empty.push _).push _) _
def KndJ (K : Heap) (l : Bool) (x : List UInt8) (m : Nat) (t : List Value) (K' : Heap) : Prop :=
 K' = K ∧ t.length = 145 ∧ rd t 2 = .bool l ∧ rd t 7 = .pointer (some ⟨Heap.empty.n, 0, none⟩) ∧ rd t 8 = .pointer (some ⟨Heap.empty.n + 1, 0, none⟩) ∧ rd t 9 = .pointer (some ⟨Heap.empty.n + 1 + 1, 0, none⟩) ∧ rd t 10 = .string ⟨⟨x⟩⟩ ∧ rd t 11 = .int .i64 m ∧ rd t 12 = .string (preK x (hidB x l))
def KndI (K : Heap) (x r : List UInt8) (m : Nat) (t : List Value) (K' : Heap) : Prop :=
 K' = K ∧ ∃ i, i ≤ r.length ∧ m = r.length - i ∧ rd t 15 = .int .i64 i ∧ rd t 14 = .bool (wantK x (r.take i))
theorem c_kinds (args : List Value) (H : Heap) : (run Try.prog noHooks).call 5 args H = callB Try.prog noHooks Try.f5 args H := call_B Try.func5 rfl (by decide +kernel) rfl args H
theorem pl_kinds0 : planOf Try.prog (drawN Try.f5 0) = some [none, none, some (1, 1), some (1, 1), some (0, 1), none, none, none] := by decide +kernel
theorem q_kinds : quiet Try.prog (drawN Try.f5 1) = true := by decide +kernel
theorem kinds_walk (a : Int) (ha : Lit.wf (.int .i64 a) = true) (b : Int) (hb : Lit.wf (.int .i64 b) = true) (l : Bool) :
  Gives ((run Try.prog noHooks).call 5 [.int .i64 a, .int .i64 b, .bool l] Heap.empty) fun o _ => o = .val (.bool true) := by
 obtain ⟨k, _, hk, ek⟩ := within_any27 plain0 ha 0 6 (by omega) (by omega) (by omega)
 obtain ⟨m, _, hm, em⟩ := within_any27 plain0 hb 0 9 (by omega) (by omega) (by omega)
 rw [c_kinds, callB, bodyOf]
 simp [Try.f5]
 obtain ⟨K, hK, g0, g1, g2⟩ := heap27
 rw [← hK]
 clear hK
 obtain ⟨x, hx⟩ := names_of (k := k) (by omega)
 obtain ⟨s, hs⟩ := stmts_of (k := m) (by omega)
 obtain ⟨r, hr⟩ := right_of (k := m) (by omega)
 have good := all_good k (by omega) m (by omega) l
 have size := all_size k (by omega) m (by omega)
 unfold goodB at good
 unfold sizeB at size
 rw [hx, hs, hr] at good size
 simp only [Bool.and_eq_true, decide_eq_true_eq] at size
 obtain ⟨lx, ls, lr, lp⟩ := size
 simp only [] at good
 have c0 : (namesL.map fun l => Value.string ⟨⟨l⟩⟩)[k]? = some (.string ⟨⟨x⟩⟩) := by rw [List.getElem?_map, hx]; rfl
 have c1 : (stmtsL.map fun l => Value.string ⟨⟨l⟩⟩)[m]? = some (.string ⟨⟨s⟩⟩) := by rw [List.getElem?_map, hs]; rfl
 have c2 : (rightL.map fun l => Value.string ⟨⟨l⟩⟩)[m]? = some (.string ⟨⟨r⟩⟩) := by rw [List.getElem?_map, hr]; rfl
 refine region_plan (by exact pl_kinds0) ?_
 have hk7 : k < 7 := by omega
 have hm10 : m < 10 := by omega
 generalize (namesL.map fun l => Value.string ⟨⟨l⟩⟩) = N0 at *
 generalize (stmtsL.map fun l => Value.string ⟨⟨l⟩⟩) = N1 at *
 generalize (rightL.map fun l => Value.string ⟨⟨l⟩⟩) = N2 at *
 simp [drawF, ek, em, hk7, g0, c0]
 rw [show (⟨#[112, 114, 111, 103, 114, 97, 109, 32, 112, 59, 32, 114, 101, 115, 111, 117, 114, 99, 101, 32, 114, 32, 50, 59, 32, 115, 101, 109, 97, 112, 104, 111, 114, 101, 32, 115, 32, 49, 59, 32, 115, 104, 97, 114, 101, 100, 32, 118, 59, 32, 115, 104, 97, 114, 101, 100, 32, 119, 91, 50, 93, 59, 32, 118, 97, 114, 32, 103, 59, 32, 118, 97, 114, 32, 104, 91, 50, 93, 59, 32, 112, 114, 111, 99, 101, 100, 117, 114, 101, 32, 113, 40, 41, 59, 32]⟩ : ByteArray) = pre0 from rfl]
 refine ends_cut (fun t K' => K' = K ∧ t.length = 145 ∧ rd t 2 = .bool l ∧ rd t 7 = .pointer (some ⟨Heap.empty.n, 0, none⟩) ∧ rd t 8 = .pointer (some ⟨Heap.empty.n + 1, 0, none⟩) ∧ rd t 9 = .pointer (some ⟨Heap.empty.n + 1 + 1, 0, none⟩) ∧ rd t 10 = .string ⟨⟨x⟩⟩ ∧ rd t 11 = .int .i64 m ∧ rd t 12 = .string pre0 ∧ rd t 29 = .bool (hidB x l)) ?_ ?_
 · unfold hidB
   cases l with
   | false =>
    simp [len_Bs]
   | true =>
    by_cases hq : x = [113]
    · subst hq
      simp [len_Bs]
    · have nq : ¬ (⟨⟨x⟩⟩ : ByteArray) = ⟨#[113]⟩ := fun h => hq (by cases h; rfl)
      simp [len_Bs, hq, nq]
 rintro t K' ⟨rfl, ht, u2, u7, u8, u9, u10, u11, u12, u29⟩
 have s0 : pre0.size ≤ 200 := by decide +kernel
 have sx : (⟨⟨x⟩⟩ : ByteArray).size = 1 := lx
 have t1 : (⟨#[118, 97, 114, 32]⟩ : ByteArray).size = 4 := rfl
 have t2 : (⟨#[59, 32]⟩ : ByteArray).size = 2 := rfl
 have t3 : (⟨#[98, 101, 103, 105, 110, 32]⟩ : ByteArray).size = 6 := rfl
 have t4 : (⟨#[32, 101, 110, 100, 59, 32, 98, 101, 103, 105, 110, 32, 115, 107, 105, 112, 32, 101, 110, 100, 46]⟩ : ByteArray).size = 21 := rfl
 have sp : ∀ v, (preK x v).size ≤ 300 := fun v => by
  unfold preK
  split
  · simp only [ByteArray.size_append, t1, t2, sx]; omega
  · omega
 refine ends_cut (KndJ K' l x m) ?_ ?_
 · cases hh : hidB x l with
   | false =>
    rw [hh] at u29
    simp [u29, ht]
    exact ⟨rfl, by simp [ht], by simp [ht, u2], by simp [ht, u7], by simp [ht, u8], by simp [ht, u9], by simp [ht, u10], by simp [ht, u11], by simp [ht, hh, preK, u12]⟩
   | true =>
    rw [hh] at u29
    have f1 := fun a b => bin_cat2 a b pre0 ⟨#[118, 97, 114, 32]⟩ (by omega)
    have f2 := fun a b => bin_cat2 a b (pre0 ++ ⟨#[118, 97, 114, 32]⟩) ⟨⟨x⟩⟩ (by rw [ByteArray.size_append]; omega)
    have f3 := fun a b => bin_cat2 a b ((pre0 ++ ⟨#[118, 97, 114, 32]⟩) ++ ⟨⟨x⟩⟩) ⟨#[59, 32]⟩ (by simp only [ByteArray.size_append]; omega)
    simp [u29, ht, u12, u10, f1, f2, f3]
    exact ⟨rfl, by simp [ht], by simp [ht, u2], by simp [ht, u7], by simp [ht, u8], by simp [ht, u9], by simp [ht, u10], by simp [ht, u11], by simp [ht, hh, preK]⟩
 clear u29 u12
 rintro t' _ ⟨rfl, ht, u2, u7, u8, u9, u10, u11, u12⟩
 have f4 := fun a b => bin_cat2 a b (preK x (hidB x l)) ⟨#[98, 101, 103, 105, 110, 32]⟩ (by have := sp (hidB x l); omega)
 have f5 := fun a b => bin_cat2 a b (preK x (hidB x l) ++ ⟨#[98, 101, 103, 105, 110, 32]⟩) (putL ⟨⟨x⟩⟩ s ByteArray.empty) (by have := sp (hidB x l); simp only [ByteArray.size_append]; omega)
 have f6 := fun a b => bin_cat2 a b ((preK x (hidB x l) ++ ⟨#[98, 101, 103, 105, 110, 32]⟩) ++ putL ⟨⟨x⟩⟩ s ByteArray.empty) ⟨#[32, 101, 110, 100, 59, 32, 98, 101, 103, 105, 110, 32, 115, 107, 105, 112, 32, 101, 110, 100, 46]⟩ (by have := sp (hidB x l); simp only [ByteArray.size_append]; omega)
 have ep := put_run plain0 s ⟨⟨x⟩⟩ (by omega) (by omega) (by omega)
 have szk : (srcK x s (hidB x l)).size ≤ 4096 := by
  have := sp (hidB x l)
  unfold srcK
  simp only [ByteArray.size_append, t3, t4]
  omega
 obtain ⟨c, q, hcq, law⟩ : ∃ c q, (parseP branP (srcK x s (hidB x l)).data.toList 300).map faultP = some (c, q) ∧ lawB x m l (wantK x r) c = true := by
  unfold codeK at good
  cases hp : (parseP branP (srcK x s (hidB x l)).data.toList 300).map faultP with
  | none => rw [hp] at good; cases good
  | some y =>
   rw [hp] at good
   obtain ⟨c, q⟩ := y
   simp only [] at good
   cases c with
   | ofNat n => exact ⟨_, _, rfl, good⟩
   | negSucc n => cases good
 simp [ht, u8, u11, g1, hm10, c1, u10, ep, u12, f4, f5, f6]
 refine gives_fault (c := c) (a := q) (decide_eq_true szk) (by exact hcq) fun K5 k5 => ?_
 have g25 := k5.at g2 (by simp) (fun h => h)
 have g26 : ∀ o, (K5.push o).get (Heap.empty.n + 1 + 1) = _ := fun o => (Heap.get_push_lt K5 o (Heap.lt_of_get g25 (by simp))).trans g25
 have g27 : ∀ o, (K5.push o).get K5.n = o := fun o => Heap.get_push_self K5 o
 simp [ht]
 generalize hK6 : K5.push (.row true 0 1 [.int .i64 c, .int .i64 q]) = K6
 have g28 := g26 (.row true 0 1 [.int .i64 c, .int .i64 q])
 have g29 := g27 (.row true 0 1 [.int .i64 c, .int .i64 q])
 rw [hK6] at g28 g29
 have hx0 : ∃ y, x = [y] := by
  cases x with
  | nil => cases lx
  | cons y l =>
   cases l with
   | nil => exact ⟨y, rfl⟩
   | cons z l => cases lx
 obtain ⟨y, rfl⟩ := hx0
 have iy : ifGround (pureRun Try.prog (Instr.index 9 (.string ⟨⟨[y]⟩⟩) (.int .i64 0))) = some (.int .u8 y.toNat) := idx_str [y] 0 (by simp)
 refine loop_mid2 (fun t K' => K' = K6 ∧ rd t 14 = .bool (wantK [y] r)) (KndI K6 [y] r) r.length ?_ ?_ ?_
 · exact ⟨rfl, 0, Nat.zero_le _, by simp, by simp [ht], by simp [ht, wantK]⟩
 · rintro n t K' hkk ⟨rfl, i, hi, rfl, g15, g14⟩
   have ht2 : t.length = 145 := hkk.1.trans (by simp [ht])
   have hh := hkk.all [9, 10, 11] (by decide +kernel)
   simp [ht, u9, u10, u11] at hh
   obtain ⟨r9, r10, r11⟩ := hh
   have w1 : IntKind.i64.wrap ((i : Int) + 1) = (i : Int) + 1 := wrap64 _ (by omega) (by omega)
   have szr : (⟨⟨r⟩⟩ : ByteArray).size = r.length := rfl
   rcases Nat.lt_or_ge i r.length with hlt | hge
   · have hw : wantK [y] (r.take (i + 1)) = (wantK [y] (r.take i) || decide (r[i] = y)) := by
      unfold wantK
      rw [List.take_add_one, List.getElem?_eq_getElem hlt, List.any_append]
      simp
     have ir := idx_str r i hlt
     simp [ht2, r9, r10, r11, g15, hm10, g28, c2, szr, hlt]
     refine region_quiet (by exact q_kinds) ?_
     cases hwi : wantK [y] (r.take i) with
     | true =>
      rw [hwi] at g14 hw
      simp [ht2, g14, g15, w1]
      exact ⟨r.length - (i + 1), by omega, rfl, i + 1, by omega, rfl, by simp [ht2], by simp [ht2, hw]⟩
     | false =>
      rw [hwi] at g14 hw
      by_cases hy : r[i] = y
      · have hy2 : ((r[i].toNat : Int) = (y.toNat : Int)) := by rw [hy]
        simp [ht2, r9, r10, r11, g14, g15, hm10, g28, c2, w1, ir, iy, hy2]
        exact ⟨r.length - (i + 1), by omega, rfl, i + 1, by omega, rfl, by simp [ht2], by simp [ht2, hw, hy]⟩
      · have hy2 : ¬ ((r[i].toNat : Int) = (y.toNat : Int)) := fun h => hy (UInt8.toNat_inj.1 (by omega))
        simp [ht2, r9, r10, r11, g14, g15, hm10, g28, c2, w1, ir, iy, hy2]
        exact ⟨r.length - (i + 1), by omega, rfl, i + 1, by omega, rfl, by simp [ht2], by simp [ht2, hw, hy]⟩
   · have : i = r.length := by omega
     subst this
     rw [List.take_length] at g14
     simp [ht2, r9, r10, r11, g15, hm10, g28, c2, szr]
     exact g14
 · rintro t K' hkk ⟨rfl, g14⟩
   have ht2 : t.length = 145 := hkk.1.trans (by simp [ht])
   have hh := hkk.all [2, 9, 10, 11, 13] (by decide +kernel)
   simp [ht, u2, u9, u10, u11] at hh
   obtain ⟨r2, r9, r10, r11, r13⟩ := hh
   obtain ⟨H9, e9⟩ := awake27 K'
   generalize wantK [y] r = w at law g14
   unfold lawB at law
   have szc : ∀ z : UInt8, ((⟨⟨[y]⟩⟩ : ByteArray) = ⟨#[z]⟩) ↔ y = z := fun z => ⟨fun h => by cases h; rfl, fun h => by rw [h]⟩
   cases hh : hidB [y] l with
   | true =>
    rw [hh, if_pos rfl] at law
    have hl : l = true := by cases l; (· cases hh); rfl
    subst hl
    have hq : (y == 113) = false := by
     cases hy : y == 113 with
     | false => rfl
     | true => rw [eq_of_beq hy] at hh; cases hh
    have mm : ((m = 4 ∨ m = 6) ∧ c = 0) ∨ (¬ m = 4 ∧ ¬ m = 6 ∧ c = 19) := by
     by_cases m4 : m = 4
     · subst m4; exact .inl ⟨.inl rfl, by simpa using law⟩
     · by_cases m6 : m = 6
       · subst m6; exact .inl ⟨.inr rfl, by simpa using law⟩
       · refine .inr ⟨m4, m6, ?_⟩
         simpa [m4, m6] using law
    rcases mm with ⟨rfl | rfl, rfl⟩ | ⟨m4, m6, rfl⟩
    · simp [ht2, r2, r10, r11, r13, g29, hq, e9]
    · simp [ht2, r2, r10, r11, r13, g29, hq, e9]
    · have m4' : ¬ (m : Int) = 4 := by omega
      have m6' : ¬ (m : Int) = 6 := by omega
      simp [ht2, r2, r10, r11, r13, g29, hq, e9, m4', m6']
   | false =>
    rw [hh, if_neg (by decide)] at law
    have cases_ : (w = true ∧ c = 0) ∨ (w = false ∧ ((((m = 4 ∨ m = 6) ∧ (y == 118) = true) ∨ ((m = 5 ∨ m = 7) ∧ (y == 119) = true)) ∧ c = 22 ∨ ((m = 4 ∨ m = 6) ∧ (y == 118) = false ∨ (m = 5 ∨ m = 7) ∧ (y == 119) = false ∨ (¬ m = 4 ∧ ¬ m = 6 ∧ ¬ m = 5 ∧ ¬ m = 7)) ∧ c = 19)) := by
     have e8 : decide ([y] = [118]) = (y == 118) := by cases hy : y == 118 <;> simp_all
     have e9 : decide ([y] = [119]) = (y == 119) := by cases hy : y == 119 <;> simp_all
     unfold oddB at law
     rw [e8, e9] at law
     cases w with
     | true => exact .inl ⟨rfl, by simpa using law⟩
     | false =>
      refine .inr ⟨rfl, ?_⟩
      by_cases m4 : m = 4
      · subst m4
        cases hy : y == 118 with
        | true => exact .inl ⟨.inl ⟨.inl rfl, rfl⟩, by simpa [hy] using law⟩
        | false => exact .inr ⟨.inl ⟨.inl rfl, rfl⟩, by simpa [hy] using law⟩
      by_cases m6 : m = 6
      · subst m6
        cases hy : y == 118 with
        | true => exact .inl ⟨.inl ⟨.inr rfl, rfl⟩, by simpa [hy] using law⟩
        | false => exact .inr ⟨.inl ⟨.inr rfl, rfl⟩, by simpa [hy] using law⟩
      by_cases m5 : m = 5
      · subst m5
        cases hy : y == 119 with
        | true => exact .inl ⟨.inr ⟨.inl rfl, rfl⟩, by simpa [hy] using law⟩
        | false => exact .inr ⟨.inr (.inl ⟨.inl rfl, rfl⟩), by simpa [hy] using law⟩
      by_cases m7 : m = 7
      · subst m7
        cases hy : y == 119 with
        | true => exact .inl ⟨.inr ⟨.inr rfl, rfl⟩, by simpa [hy] using law⟩
        | false => exact .inr ⟨.inr (.inl ⟨.inr rfl, rfl⟩), by simpa [hy] using law⟩
      exact .inr ⟨.inr (.inr ⟨m4, m6, m5, m7⟩), by simpa [m4, m5, m6, m7] using law⟩
    clear law
    have go : ∀ (Q : QA), Q = Q → l = false ∨ (l = true ∧ (y == 113) = true) := fun _ _ => by
     cases l with
     | false => exact .inl rfl
     | true =>
      refine .inr ⟨rfl, ?_⟩
      cases hy : y == 113 with
      | true => rfl
      | false =>
       have : decide ([y] = [113]) = false := by simp_all
       unfold hidB at hh
       rw [this] at hh
       cases hh
    rcases go (fun _ _ _ => True) rfl with rfl | ⟨rfl, hy⟩
    · rcases cases_ with ⟨rfl, rfl⟩ | ⟨rfl, ⟨⟨rfl | rfl, h8⟩ | ⟨rfl | rfl, h8⟩, rfl⟩ | ⟨⟨rfl | rfl, h8⟩ | ⟨rfl | rfl, h8⟩ | ⟨m4, m6, m5, m7⟩, rfl⟩⟩
      · simp [ht2, r2, r10, r11, r13, g29, g14, e9]
      · simp [ht2, r2, r10, r11, r13, g29, g14, e9, h8]
      · simp [ht2, r2, r10, r11, r13, g29, g14, e9, h8]
      · simp [ht2, r2, r10, r11, r13, g29, g14, e9, h8]
      · simp [ht2, r2, r10, r11, r13, g29, g14, e9, h8]
      · simp [ht2, r2, r10, r11, r13, g29, g14, e9, h8]
      · simp [ht2, r2, r10, r11, r13, g29, g14, e9, h8]
      · simp [ht2, r2, r10, r11, r13, g29, g14, e9, h8]
      · simp [ht2, r2, r10, r11, r13, g29, g14, e9, h8]
      · have m4' : ¬ (m : Int) = 4 := by omega
        have m6' : ¬ (m : Int) = 6 := by omega
        have m5' : ¬ (m : Int) = 5 := by omega
        have m7' : ¬ (m : Int) = 7 := by omega
        simp [ht2, r2, r10, r11, r13, g29, g14, e9, m4', m5', m6', m7']
    · obtain rfl : y = 113 := eq_of_beq hy
      have n8 : ((113 : UInt8) == 118) = false := rfl
      have n9 : ((113 : UInt8) == 119) = false := rfl
      rcases cases_ with ⟨rfl, rfl⟩ | ⟨rfl, ⟨⟨rfl | rfl, h8⟩ | ⟨rfl | rfl, h8⟩, rfl⟩ | ⟨⟨rfl | rfl, h8⟩ | ⟨rfl | rfl, h8⟩ | ⟨m4, m6, m5, m7⟩, rfl⟩⟩
      · simp [ht2, r2, r10, r11, r13, g29, g14, e9]
      · rw [n8] at h8; cases h8
      · rw [n8] at h8; cases h8
      · rw [n9] at h8; cases h8
      · rw [n9] at h8; cases h8
      · simp [ht2, r2, r10, r11, r13, g29, g14, e9, n8, n9]
      · simp [ht2, r2, r10, r11, r13, g29, g14, e9, n8, n9]
      · simp [ht2, r2, r10, r11, r13, g29, g14, e9, n8, n9]
      · simp [ht2, r2, r10, r11, r13, g29, g14, e9, n8, n9]
      · have m4' : ¬ (m : Int) = 4 := by omega
        have m6' : ¬ (m : Int) = 6 := by omega
        have m5' : ¬ (m : Int) = 5 := by omega
        have m7' : ¬ (m : Int) = 7 := by omega
        simp [ht2, r2, r10, r11, r13, g29, g14, e9, m4', m5', m6', m7']
end Go.Vm.Typing
