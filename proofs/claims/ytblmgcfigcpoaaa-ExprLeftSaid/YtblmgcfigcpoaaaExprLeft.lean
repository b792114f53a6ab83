/- What is proved: 'signalboxlaw23.ExprLeft' hands back true, whatever the input. -/
import Derived.Test.YtblmgcfigcpoaaaExprC2
namespace Go.Vm.Ex
open Go Go.Proofs Go.Vm.Parse Go.Vm.ExprLaw
set_option maxRecDepth 100000
set_option maxHeartbeats 4000000
set_option linter.unusedSimpArgs false
set_option linter.unusedVariables false
attribute [local simp] repCells_succ writeAt rd_Fr toList_beq gpe gpn spe gse gsn ne_r0 ne_l0 le_s0 ne_r1 ne_l1 lt_s1 le_s1 ne_r2 ne_l2 lt_s2 le_s2 ne_r3 ne_l3 lt_s3 le_s3 ne_r4 ne_l4 lt_s4 le_s4 ne_r5 ne_l5 lt_s5 le_s5 ne_r6 ne_l6 lt_s6 le_s6 ne_r7 ne_l7 lt_s7 le_s7
theorem c_Left (args : List Value) (H : Heap) : (run Try.prog E1).call 4 args H = callB Try.prog E1 Try.f4 args H := call_B Try.func4 rfl (by decide +kernel) rfl args H
theorem pl_left : planOf Try.prog (drawN Try.f4 0) = some [none, none, none, none, (some (0, 1)), (some (0, 1)), (some (0, 1)), none, none, none, none, none, none, none, none, none, none, none, none, none, none, none, none, none, none, none, none, none, none, none, none, none, none, none, none, none, none, none, none, none, none, none, none, none, none, none, none, none, none, none, none, none, none, none, none, none] := by decide +kernel
def opC : Nat → List Value
  | 0 => [.int .i64 9, .int .i64 10]
  | _ => [.int .i64 11, .int .i64 12, .int .i64 13]
theorem opC_at : ∀ row, row < 2 → ∀ k, k < 2 + row → (opC row)[k]? = some (.int .i64 (sOp row k)) := by
  intro row hr k hk
  rcases (show row = 0 ∨ row = 1 by omega) with rfl | rfl
  · rcases (show k = 0 ∨ k = 1 by omega) with rfl | rfl <;> rfl
  · rcases (show k = 0 ∨ k = 1 ∨ k = 2 by omega) with rfl | rfl | rfl <;> rfl
theorem opC_len : ∀ row, row < 2 → (opC row).length = 2 + row := by
  intro row hr
  rcases (show row = 0 ∨ row = 1 by omega) with rfl | rfl <;> rfl
theorem opC_get {row : Nat} (hr : row < 2) {k : Nat} (hk : k < 2 + row) (h : k < (opC row).length) : (opC row)[k] = .int .i64 (sOp row k) := by
  have e := opC_at row hr k hk
  rw [List.getElem?_eq_getElem h] at e
  simpa using e
/-- Of each number of the list which sign it names. -/
theorem picks {cs : List Value} (hcs : ∀ c ∈ cs, isInt .i64 c) (r : Nat) (hr : r < 2) : ∃ (xs : Nat → Int) (k : Nat → Nat), ∀ i, i < cs.length → cs[i]? = some (.int .i64 (xs i)) ∧ k i < 2 + r ∧ ∀ H, (run Try.prog E1).call 10 [.int .i64 (xs i), .int .i64 0, .int .i64 (1 + r : Nat)] H = some (.val (.int .i64 (k i)), H) := by
  have key : ∀ i, ∃ p : Int × Nat, i < cs.length → cs[i]? = some (.int .i64 p.1) ∧ p.2 < 2 + r ∧ ∀ H, (run Try.prog E1).call 10 [.int .i64 p.1, .int .i64 0, .int .i64 (1 + r : Nat)] H = some (.val (.int .i64 p.2), H) := fun i => by
    by_cases h : i < cs.length
    · obtain ⟨x, hx, h1, h2⟩ := hcs _ (List.getElem_mem h)
      have w : Lit.wf (.int .i64 x) = true := by
        simp [Lit.wf, h1]
        exact h2
      obtain ⟨k, k0, k1, ek⟩ := within_any plain_E1 w 0 (1 + r : Nat) (by omega) (by omega) (by omega)
      exact ⟨(x, k), fun _ => ⟨by rw [List.getElem?_eq_getElem h, hx], by show k < 2 + r; omega, ek⟩⟩
    · exact ⟨(0, 0), fun h' => absurd h' h⟩
  obtain ⟨f, hf⟩ := Classical.skolem.1 key
  exact ⟨fun i => (f i).1, fun i => (f i).2, hf⟩
theorem flat_at {L : List Tk} {p : Nat} (h : p < L.length) {q : Nat} (hq : q < 4) : (flatT L)[p * 4 + q]? = (tok L p).cells[q]? := by
  have e := flatT_get L p h
  have ht : tok L p = L[p] := by
    unfold tok
    rw [List.getD_eq_getElem?_getD, List.getElem?_eq_getElem h]
    rfl
  rw [ht, ← e, List.getElem?_take, if_pos hq, List.getElem?_drop]
/-- What stands behind the choice of the signs. -/
def LfS (lv : Value) (n r sid oid : Nat) (t : List Value) : Prop := t.length = 130 ∧ rd t 0 = lv ∧ rd t 5 = .slice (some ⟨sid, 0, none⟩) (2 + r) (2 + r) ∧ rd t 6 = .slice (some ⟨oid, 0, none⟩) (2 + r) (2 + r)
def LfC (lv : Value) (n r : Nat) (cs : List Value) (t : List Value) (K : Heap) : Prop := ∃ sid oid, LfS lv n r sid oid t ∧ K.get 0 = .row false 0 0 cs ∧ K.get sid = .row true 0 1 (sgC r) ∧ K.get oid = .row true 0 1 (opC r)
/-- What the last loop keeps: so many signs are still to be looked at. -/
def LfI (lv : Value) (n r oid X id2 : Nat) (K5 : Heap) (k : Nat → Nat) (m : Nat) (t : List Value) (K : Heap) : Prop :=
  m ≤ n ∧ t.length = 130 ∧ rd t 0 = lv ∧ rd t 6 = .slice (some ⟨oid, 0, none⟩) (2 + r) (2 + r) ∧ rd t 7 = .slice (some ⟨id2, 0, none⟩) (2 * n + 2) (2 * n + 2) ∧ rd t 9 = .pointer (some ⟨X, 0, none⟩) ∧
    rd t 12 = .int .i64 ((m : Int) - 1) ∧ ∃ c, RE K5 (fun i => i < X) (cE r k m) c ∧ K.get X = .row true 0 1 c ∧ Same (fun i => i = X) K5 K
def LfJ (X : Nat) (t : List Value) (K : Heap) : Prop := t.length = 130 ∧ rd t 9 = .pointer (some ⟨X, 0, none⟩) ∧ ∃ y v, K.get X = .row true 0 1 [.int .i64 1, .int .i64 0, .int .i64 1, .int .i64 0, .string y, v]
theorem left_walk (x : Value) (o : AObj) (fa : FlatArg (isInt .i64) 1 0 x o) (row : Int) (w1 : Lit.wf (.int .i64 row) = true) :
    Gives ((run Try.prog E1).call 4 [x, .int .i64 row] (Heap.empty.push o)) fun o _ => o = .val (.bool true) := by
  have aw := awake_true
  rw [c_Left, callB, bodyOf]
  obtain ⟨base, n, cap, cs, rfl, hc, _, hls, hint, hb⟩ := fa
  by_cases n0 : n = 0
  · subst n0
    simp [Try.f4, aw]
  by_cases n60 : 60 < n
  · simp [Try.f4, show ¬ (n : Int) < 1 by omega, show (60 : Int) < n by omega, aw]
  rcases hb with ⟨_, _, rfl, _⟩ | ⟨rfl, rfl⟩
  · exact absurd rfl n0
  obtain ⟨r, r0, r1, er⟩ := within_any plain_E1 w1 0 1 (by omega) (by omega) (by omega)
  have hr : r < 2 := by omega
  obtain ⟨xs, k, hk⟩ := picks hint r hr
  simp [Try.f4, show ¬ (n : Int) < 1 by omega, show ¬ (60 : Int) < n by omega, er]
  refine ends_cut (LfC (.slice (some ⟨0, 0, none⟩) n cap) n r cs) ?_ ?_
  · rcases (show r = 0 ∨ r = 1 by omega) with rfl | rfl
    · simp
      exact ⟨Heap.empty.n + 1, Heap.empty.n + 1 + 1, ⟨by simp [Bs], by simp, by simp, by simp⟩, by simp [show 0 = Heap.empty.n from rfl], by simp [sgC], by simp [opC]⟩
    · simp
      exact ⟨Heap.empty.n + 1 + 1 + 1, Heap.empty.n + 1 + 1 + 1 + 1, ⟨by simp [Bs], by simp, by simp, by simp⟩, by simp [show 0 = Heap.empty.n from rfl], by simp [sgC], by simp [opC]⟩
  rintro t K ⟨sid, oid, ⟨ht, u0, u5, u6⟩, g0, gs, go⟩
  obtain ⟨o1, K1, e1, id1, tl1, rfl, h1, hid1, s1⟩ := chain_run hr g0 (by omega) hc (fun i hi => (hk i (by omega)).1) gs (fun i hi => (hk i (by omega)).2)
  have hkr : ∀ i, i < n → k i < 2 + r := fun i hi => (hk i (by omega)).2.1
  have hlex := (lexC hr hkr).all
  have hcl := chainL_len r k n
  have hbs : BS K1 id1 0 (4 * n + 1) (chainL r k n) := ⟨true, tl1, 1, _, h1, by simp, by omega, by simp [List.take_of_length_le]⟩
  obtain ⟨o2, K2, e2, s2, id2, hid2, rfl, tl2, htl2, h2⟩ := all_walk plain_E1 hbs (by omega) hlex
  rw [hcl] at e2
  obtain ⟨tS, hLlen, N, hX⟩ := chain_xr hr hkr (L := toksC r k n) rfl
  rw [hLlen] at e2
  generalize toksC r k n = L at *
  have hid2K := Heap.lt_of_get h2 (by simp)
  obtain ⟨o4, K4, e4, s4, cs4, rfl, r4⟩ := par_walk plain_E1 (H := K2.push (.row true 0 1 [.int .i64 0, .int .i64 0])) (lid := id2) (tl := tl2) (L := L) (by rw [Heap.get_push, if_neg (by omega)]; exact h2) (by omega) (p := 0) (Nat.zero_le _) (lv := 1) (by omega) (by omega) (hX N (Nat.le_refl _))
  rw [hLlen] at e4
  simp at e4
  have w2 : IntKind.i64.wrap (2 * (n : Int) + 2 - 1) = 2 * n + 1 := by rw [wrap64 _ (by omega) (by omega)]; omega
  have w3 : IntKind.i64.wrap ((n : Int) - 1) = n - 1 := wrap64 _ (by omega) (by omega)
  have hsix := RE.shape r4
  obtain ⟨a4, b4, c4, d4, y4, v4, m4, f4, hcs4⟩ := hsix
  obtain ⟨K5, hK5⟩ : ∃ K5, K5 = (((K4.push (.row true 0 1 [.int .i64 0, .int .i64 0, .int .i64 0, .int .i64 0, .string ByteArray.empty, .slice none 0 0])).push (.row true 0 1 [.int .i64 0, .int .i64 0])).set K4.n (.row true 0 1 [.int .i64 a4, .int .i64 b4, .int .i64 c4, .int .i64 d4, .string y4, .slice v4 m4 f4])).set (K4.n + 1) (.row true 0 1 [.int .i64 0, .int .i64 0]) := ⟨_, rfl⟩
  have s5 : Same (fun _ => False) K4 K5 := by rw [hK5]; exact (((Same.push _ _ _).then_push _).then_set (by simp) (.inr (Nat.le_refl _)) _).then_set (by simp) (.inr (by omega)) _
  have n5 : K5.n = K4.n + 1 + 1 := by rw [hK5]; rfl
  have gX5 : K5.get K4.n = .row true 0 1 cs4 := by rw [hK5, gsn _ (by omega), Heap.get_set_self _ _ (by simp), hcs4]
  have gF5 : K5.get (K4.n + 1) = .row true 0 1 [.int .i64 0, .int .i64 0] := by rw [hK5, Heap.get_set_self _ _ (by simp)]
  have sAll : Same (fun _ => False) K K5 := ((s1.trans s2).then_push _).trans s4 |>.then0 s5
  have nK4 := s4.n
  simp at nK4
  have lK := sAll.n
  have g0' := sAll.at g0 (by simp) (fun h => h)
  have go' := sAll.at go (by simp) (fun h => h)
  have g2' := (((Same.push (fun _ => False) K2 _).trans s4).then0 s5).at h2 (by simp) (fun h => h)
  have r5 : RE K5 (fun i => i < K4.n) (cE r k n) cs4 := RE.move s5 (fun i _ hi => ⟨hi, fun h => h⟩) _ _ r4
  have hl0 := Heap.lt_of_get g0 (by simp)
  have hlo := Heap.lt_of_get go (by simp)
  have hlK : K.n ≤ K4.n := by have := s1.n; have := s2.n; omega
  simp [ht, u0, u5, u6, e1, e2, e4, w2, w3, hcs4]
  rw [← hK5]
  refine loop_mid (LfJ K4.n) (LfI (.slice (some ⟨0, 0, none⟩) n cap) n r oid K4.n id2 K5 k) n ?_ ?_ ?_
  · exact ⟨Nat.le_refl n, by simp [ht], by simp [ht, u0], by simp [ht, u6], by simp [ht], by simp [ht], by simp [ht], cs4, r5, gX5, Same.refl _ _⟩
  · rintro m t K hkp ⟨hmn, ht, u0, u6, u7, u9, u12, c, hre, gX, sK⟩
    cases m with
    | zero =>
      simp at u12
      simp only [cE, nE, RE] at hre
      obtain ⟨v, rfl, _⟩ := hre
      simp [ht, u12]
      exact ⟨by simp [ht], by simp [ht, u9], _, _, gX⟩
    | succ i =>
      have hlt : i < n := by omega
      simp at u12
      simp only [cE, nE, RE, REs] at hre
      obtain ⟨v, rfl, hre⟩ := hre
      rcases hre with ⟨_, hf⟩ | ⟨gid, gtl, gc, rfl, hgid, hg, c1, c2, rfl, hr1, c3, c4, rfl, ⟨v3, rfl, _⟩, rfl⟩
      · cases hf
      obtain ⟨a1, b1', k1, d1, y1, v1, m1, f1, hc1⟩ := RE.shape hr1
      have gL := sK.at g0' (by simp) (by omega)
      have gO := sK.at go' (by simp) (by omega)
      have gT := sK.at g2' (by simp) (by omega)
      have gG := sK.at hg (by simp) (by omega)
      simp only [hc1, List.cons_append, List.nil_append, List.append_nil] at gG
      obtain ⟨hxi, hki, hkc⟩ := hk i (by omega)
      simp only [Int.natCast_add, Int.cast_ofNat_Int] at hkc
      have lenO := opC_len r hr
      have q1 : IntKind.i64.wrap (2 + (r : Int) - 1) = 1 + r := by rw [wrap64 _ (by omega) (by omega)]; omega
      have q2 := wrap64 (2 * (i : Int)) (by omega) (by omega)
      have q3 := wrap64 (2 * (i : Int) + 1) (by omega) (by omega)
      have q4 := wrap64 (2 + (i : Int) % 8) (by omega) (by omega)
      have q5 := wrap64 ((i : Int) - 1) (by omega) (by omega)
      have q6 : (2 * (i : Int) + 1).toNat = 2 * i + 1 := by omega
      have hr8 : (i : Int).tmod 8 = (i % 8 : Nat) := by rw [Int.tmod_eq_emod_of_nonneg (by omega)]; omega
      have f_rem := fun ty a b => bin_rem (P := Try.prog) ty a b .i64 i 8 (by omega)
      rw [hr8] at f_rem
      have hdg : ((dg (i + 1)).toNat : Int) - 48 = 2 + (i : Int) % 8 := by
        show ((dB i).toNat : Int) - 48 = _
        rw [dB_nat]; omega
      have hat : (flatT L)[(2 * i + 1) * 4 + 1]? = some (.int .i64 (4 * i + 2)) := by
        rw [flat_at (by omega) (by omega), tS i hlt]; rfl
      rw [hdg] at gG
      simp [ht, u12]
      refine region_plan (by exact pl_left) ?_
      simp [hlt, show (0 : Int) ≤ 2 * (i : Int) + 1 by omega, show 2 * (i : Int) + 1 < 2 * n + 2 by omega, show 2 * i + 1 < 2 * n + 2 by omega, ht, u0, u6, u7, u9, u12, gX, gL, gO, gT, gG, hxi, hkc, show (k i : Int) < 2 + r by omega, opC_at r hr _ hki, fun h => opC_get hr hki h, lenO, q1, q2, q3, q4, q5, q6, f_rem, hat]
      have hXK := Heap.lt_of_get gX (by simp)
      refine ⟨i, by omega, by omega, by simp [ht], by simp [ht, u0], by simp [ht, u6], by simp [ht, u7], by simp [ht, u9], by simp [ht], c1, hr1, ?_, ?_⟩
      · rw [Heap.get_set_self _ _ hXK, hc1]
      · exact sK.trans (Same.set (X := fun i => i = K4.n) K hXK rfl _)
  · rintro t K hkp ⟨ht, u9, y, v, hX⟩
    simp [ht, u9, hX, aw]
end Go.Vm.Ex
