/- What is proved: what the reference's table tells of locals and regions, its cells and lists. -/
import Derived.Test.YtbjcfdopkaekjaaRef4
namespace Go.Vm.Scope
open Go Go.Proofs Go.Vm.Parse
set_option maxRecDepth 100000
set_option maxHeartbeats 4000000
set_option linter.unusedSimpArgs false
set_option linter.unusedVariables false
attribute [local simp] repCells_succ writeAt rd_Fr toList_beq gpe gpn spe gse gsn ne_r0 ne_l0 le_s0 ne_r1 ne_l1 lt_s1 le_s1 ne_r2 ne_l2 lt_s2 le_s2 ne_r3 ne_l3 lt_s3 le_s3 ne_r4 ne_l4 lt_s4 le_s4 ne_r5 ne_l5 lt_s5 le_s5 ne_r6 ne_l6 lt_s6 le_s6 ne_r7 ne_l7 lt_s7 le_s7
def rlocalsAt (R : RT) (i : Int) : List ByteArray := if i < 1 then [] else (R.locals[(i - 1).toNat]?).getD []
def rheadAt (R : RT) (i : Int) : Int := if i < 1 then 0 else (R.heads[(i - 1).toNat]?).getD 0
def RegI (H : Heap) (x : ByteArray) (R : RT) (m : Nat) (t : List Value) (K' : Heap) : Prop :=
  K' = H ∧ ∃ k n : Nat, k ≤ R.names.length ∧ n ≤ k ∧ m = R.names.length - k ∧ rd t 7 = .int .i64 k ∧ rd t 6 = .int .i64 n ∧ regF x 0 (R.names.zip R.means) = regF x n ((R.names.zip R.means).drop k)
def OfJ (H : Heap) (kd : Int) (R : RT) (t : List Value) (K' : Heap) : Prop := repInt.G K' (fun i => H.n ≤ i) (rd t 5) (ofF kd (R.means.zip R.values)) ∧ Same (fun _ => False) H K'
def OfI (H : Heap) (kd : Int) (R : RT) (m : Nat) (t : List Value) (K' : Heap) : Prop :=
  Same (fun _ => False) H K' ∧ ∃ k acc, k ≤ R.means.length ∧ acc.length ≤ k ∧ m = R.means.length - k ∧ rd t 6 = .int .i64 k ∧ repInt.G K' (fun i => H.n ≤ i) (rd t 5) acc ∧ acc ++ ofF kd ((R.means.zip R.values).drop k) = ofF kd (R.means.zip R.values)
def CelJ (H : Heap) (R : RT) (t : List Value) (K' : Heap) : Prop := repCel.G K' (fun i => H.n ≤ i) (rd t 3) (celF 0 R.means) ∧ Same (fun _ => False) H K'
def CelI (H : Heap) (R : RT) (m : Nat) (t : List Value) (K' : Heap) : Prop :=
  Same (fun _ => False) H K' ∧ ∃ (k : Nat) (acc : List Cel) (a : Int), k ≤ R.means.length ∧ acc.length ≤ k ∧ m = R.means.length - k ∧ rd t 5 = .int .i64 k ∧ rd t 4 = .int .i64 a ∧ 0 ≤ a ∧ a ≤ k * 64 ∧ repCel.G K' (fun i => H.n ≤ i) (rd t 3) acc ∧ acc ++ celF a (R.means.drop k) = celF 0 R.means
section
variable {E : Hooks} (hE : Plain E)
include hE
variable {H : Heap} {col : Nat → Nat} {tid : Nat} {v1 v2 v3 v4 v5 v6 : Value} {R : RT} (h : RRef H col tid v1 v2 v3 v4 v5 v6 R) (hok : ROK R)
include h hok
theorem rlocal_run (i : Int) (x : ByteArray) : (run Try.prog E).call 55 [.pointer (some ⟨tid, 0, none⟩), .int .i64 i, .string x] H = some (.val (.tuple #[rIdx (idxF x 0 (rlocalsAt R i)) 0, .bool (idxF x 0 (rlocalsAt R i)).isSome]), H) := by
  suffices key : Gives ((run Try.prog E).call 55 [.pointer (some ⟨tid, 0, none⟩), .int .i64 i, .string x] H) fun o H' => o = .val (.tuple #[rIdx (idxF x 0 (rlocalsAt R i)) 0, .bool (idxF x 0 (rlocalsAt R i)).isSome]) ∧ H' = H by
    obtain ⟨o, H', e, rfl, rfl⟩ := key
    exact e
  have g0 := h.obj
  obtain ⟨b5, rfl⟩ := repStrs.G_slice h.g5
  simp only [rt6] at g0
  rw [c_rLocal hE, callB, bodyOf]
  unfold rlocalsAt
  by_cases h0 : i < 1
  · simp [Try.f55, g0, h0, idxF, rIdx]
  · obtain ⟨n, rfl⟩ : ∃ n : Nat, i = (n : Int) + 1 := ⟨(i - 1).toNat, by omega⟩
    rw [if_neg h0, show ((n : Int) + 1 - 1).toNat = n by omega]
    have ll := hok.l2
    have ln := hok.n4
    by_cases h1 : n < R.locals.length
    · have h1' : ¬ (R.locals.length : Int) < (n : Int) + 1 := by omega
      obtain ⟨id, tl, cs, e1, _, _, hrow, hcl, hget, hle⟩ := repStrs.G_at h.g5 h1
      cases e1
      have l3 := hok.l3 R.locals[n] (List.getElem_mem h1)
      rw [List.getElem?_eq_getElem h1, Option.getD_some]
      generalize R.locals[n] = l at *
      obtain ⟨w, hw, gw⟩ := hget
      simp only [repStrs, Nat.mul_one] at hw hcl hle hrow
      have hw3 : cs[n]'(by omega) = w := (List.getElem?_eq_some_iff.1 (getc hw)).2
      obtain ⟨wb, rfl⟩ := repStr.G_slice gw
      have w1 : IntKind.i64.wrap (n : Int) = (n : Int) := wrap64 _ (by omega) (by omega)
      simp [Try.f55, g0, h0, h1']
      refine loop_mid2 (fun t K' => K' = H ∧ idxF x 0 l = none) (fun m t K' => K' = H ∧ ∃ k, k ≤ l.length ∧ m = l.length - k ∧ rd t 8 = .int .i64 k ∧ idxF x 0 l = idxF x k (l.drop k)) l.length ?_ ?_ ?_
      · exact ⟨rfl, 0, Nat.zero_le _, by simp, by simp, by simp⟩
      · rintro m t _ hk ⟨rfl, k, hkl, rfl, g8, hf⟩
        have ht : t.length = 47 := hk.1.trans (by simp [len_Bs])
        have hh := hk.all [0, 1, 2] (by decide +kernel)
        simp at hh
        obtain ⟨u0, u1, u2⟩ := hh
        rcases Nat.lt_or_ge k l.length with hlt | hge
        · obtain ⟨id2, tl2, cs2, e2, hrow2, hcl2, hk2, hc2⟩ := str_cell gw hlt
          cases e2
          rw [List.drop_eq_getElem_cons hlt, idxF] at hf
          generalize l[k] = y at *
          have w2 : IntKind.i64.wrap ((k : Int) + 1) = (k : Int) + 1 := wrap64 _ (by omega) (by omega)
          by_cases hy : y = x
          · subst hy
            rw [if_pos rfl] at hf
            rw [hf]
            simp [ht, u0, u1, u2, g8, hlt, g0, w1, h1, hrow, hcl, hle, hw, hw3, hrow2, hcl2, hc2, rIdx]
          · rw [if_neg hy] at hf
            simp [ht, u0, u1, u2, g8, hlt, g0, w1, h1, hrow, hcl, hle, hw, hw3, hrow2, hcl2, hc2, hy, w2]
            exact ⟨l.length - (k + 1), by omega, k + 1, by omega, rfl, by simp [ht], hf⟩
        · simp [ht, u0, u1, u2, g8, g0, w1, h1, hrow, hcl, hle, hw, hw3, show ¬ k < l.length by omega]
          rw [hf, List.drop_eq_nil_of_le (by omega)]
          rfl
      · rintro t _ hk ⟨rfl, hf⟩
        have ht : t.length = 47 := hk.1.trans (by simp [len_Bs])
        rw [hf]
        simp [ht, rIdx]
    · have h1' : (R.locals.length : Int) < (n : Int) + 1 := by omega
      rw [List.getElem?_eq_none (by omega)]
      simp [Try.f55, g0, h0, h1', idxF, rIdx]
theorem rhead_run (i : Int) : (run Try.prog E).call 56 [.pointer (some ⟨tid, 0, none⟩), .int .i64 i] H = some (.val (.int .i64 (rheadAt R i)), H) := by
  suffices key : Gives ((run Try.prog E).call 56 [.pointer (some ⟨tid, 0, none⟩), .int .i64 i] H) fun o H' => o = .val (.int .i64 (rheadAt R i)) ∧ H' = H by
    obtain ⟨o, H', e, rfl, rfl⟩ := key
    exact e
  have g0 := h.obj
  obtain ⟨b4, rfl⟩ := repInt.G_slice h.g4
  simp only [rt6] at g0
  rw [c_rParams hE, callB, bodyOf]
  unfold rheadAt
  by_cases h0 : i < 1
  · simp [Try.f56, g0, h0]
  · obtain ⟨n, rfl⟩ : ∃ n : Nat, i = (n : Int) + 1 := ⟨(i - 1).toNat, by omega⟩
    rw [if_neg h0, show ((n : Int) + 1 - 1).toNat = n by omega]
    have ll := hok.l2
    have ln := hok.n3
    by_cases h1 : n < R.heads.length
    · have h1' : ¬ (R.heads.length : Int) < (n : Int) + 1 := by omega
      obtain ⟨id, tl, cs, e1, hrow, hcl, hk1, hc1⟩ := int_cell h.g4 h1
      cases e1
      rw [List.getElem?_eq_getElem h1, Option.getD_some]
      generalize R.heads[n] = l at *
      have w1 : IntKind.i64.wrap (n : Int) = (n : Int) := wrap64 _ (by omega) (by omega)
      simp [Try.f56, g0, h0, h1, h1', w1, hrow, hcl, hc1]
    · have h1' : (R.heads.length : Int) < (n : Int) + 1 := by omega
      rw [List.getElem?_eq_none (by omega)]
      simp [Try.f56, g0, h0, h1']
theorem rsize_run (i : Int) : (run Try.prog E).call 57 [.pointer (some ⟨tid, 0, none⟩), .int .i64 i] H = some (.val (.int .i64 (rlocalsAt R i).length), H) := by
  suffices key : Gives ((run Try.prog E).call 57 [.pointer (some ⟨tid, 0, none⟩), .int .i64 i] H) fun o H' => o = .val (.int .i64 (rlocalsAt R i).length) ∧ H' = H by
    obtain ⟨o, H', e, rfl, rfl⟩ := key
    exact e
  have g0 := h.obj
  obtain ⟨b5, rfl⟩ := repStrs.G_slice h.g5
  simp only [rt6] at g0
  rw [c_rSize hE, callB, bodyOf]
  unfold rlocalsAt
  by_cases h0 : i < 1
  · simp [Try.f57, g0, h0]
  · obtain ⟨n, rfl⟩ : ∃ n : Nat, i = (n : Int) + 1 := ⟨(i - 1).toNat, by omega⟩
    rw [if_neg h0, show ((n : Int) + 1 - 1).toNat = n by omega]
    have ll := hok.l2
    have ln := hok.n4
    by_cases h1 : n < R.locals.length
    · have h1' : ¬ (R.locals.length : Int) < (n : Int) + 1 := by omega
      obtain ⟨id, tl, cs, e1, _, _, hrow, hcl, hget, hle⟩ := repStrs.G_at h.g5 h1
      cases e1
      rw [List.getElem?_eq_getElem h1, Option.getD_some]
      generalize R.locals[n] = l at *
      obtain ⟨w, hw, gw⟩ := hget
      simp only [repStrs, Nat.mul_one] at hw hcl hle hrow
      have hw3 : cs[n]'(by omega) = w := (List.getElem?_eq_some_iff.1 (getc hw)).2
      obtain ⟨wb, rfl⟩ := repStr.G_slice gw
      have w1 : IntKind.i64.wrap (n : Int) = (n : Int) := wrap64 _ (by omega) (by omega)
      simp [Try.f57, g0, h0, h1, h1', w1, hrow, hcl, hle, hw, hw3]
    · have h1' : (R.locals.length : Int) < (n : Int) + 1 := by omega
      rw [List.getElem?_eq_none (by omega)]
      simp [Try.f57, g0, h0, h1']
theorem rregion_run (x : ByteArray) : (run Try.prog E).call 54 [.pointer (some ⟨tid, 0, none⟩), .string x] H = some (.val (.tuple #[rIdx (regF x 0 (R.names.zip R.means)) 0, .bool (regF x 0 (R.names.zip R.means)).isSome]), H) := by
  suffices key : Gives ((run Try.prog E).call 54 [.pointer (some ⟨tid, 0, none⟩), .string x] H) fun o H' => o = .val (.tuple #[rIdx (regF x 0 (R.names.zip R.means)) 0, .bool (regF x 0 (R.names.zip R.means)).isSome]) ∧ H' = H by
    obtain ⟨o, H', e, rfl, rfl⟩ := key
    exact e
  have g0 := h.obj
  obtain ⟨b1, rfl⟩ := repStr.G_slice h.g1
  simp only [rt6] at g0
  rw [c_rRegion hE, callB, bodyOf]
  simp [Try.f54]
  refine loop_mid2 (fun t K' => K' = H ∧ regF x 0 (R.names.zip R.means) = none) (RegI H x R) R.names.length ?_ ?_ ?_
  · exact ⟨rfl, 0, 0, Nat.zero_le _, Nat.le_refl _, by simp, by simp, by simp, by simp⟩
  · rintro m t _ hk ⟨rfl, k, n, hkl, hnk, rfl, g7, g6, hf⟩
    have ht : t.length = 38 := hk.1.trans (by simp [len_Bs])
    have hh := hk.all [0, 1] (by decide +kernel)
    simp at hh
    obtain ⟨u0, u1⟩ := hh
    rcases Nat.lt_or_ge k R.names.length with hlt | hge
    · obtain ⟨id, tl, cs, e1, hrow, hcl, hk1, hc1⟩ := str_cell h.g1 hlt
      cases e1
      have hlt2 : k < R.means.length := by have := hok.n1; omega
      obtain ⟨id2, tl2, cs2, e2, hrow2, hcl2, hle2, hget2, ⟨_, hm1⟩, _⟩ := nm_cell h.g2 hlt2
      subst e2
      have hz : (R.names.zip R.means).drop k = (R.names[k], R.means[k]) :: (R.names.zip R.means).drop (k + 1) := by
        rw [List.drop_eq_getElem_cons (by rw [List.length_zip]; omega), List.getElem_zip]
      rw [hz, regF] at hf
      generalize R.names[k] = y at *
      generalize R.means[k] = mm at *
      have w1 : IntKind.i64.wrap ((k : Int) + 1) = (k : Int) + 1 := wrap64 _ (by omega) (by have := hok.l1; omega)
      have w2 : IntKind.i64.wrap ((n : Int) + 1) = (n : Int) + 1 := wrap64 _ (by omega) (by have := hok.l1; omega)
      by_cases hm : mm.kind = 3
      · rw [if_pos hm] at hf
        simp only [hm] at hm1 hget2
        by_cases hy : y = x
        · subst hy
          rw [if_pos rfl] at hf
          rw [hf]
          simp [ht, u0, u1, g6, g7, hlt, hlt2, g0, hrow, hcl, hc1, hrow2, hcl2, hle2, hget2, hm1, rIdx]
        · rw [if_neg hy] at hf
          simp [ht, u0, u1, g6, g7, hlt, hlt2, g0, hrow, hcl, hc1, hrow2, hcl2, hle2, hget2, hm1, hy, w1, w2]
          exact ⟨R.names.length - (k + 1), by omega, rfl, k + 1, n + 1, by omega, by omega, rfl, by simp [ht], by simp [ht], hf⟩
      · rw [if_neg hm] at hf
        simp [ht, u0, u1, g6, g7, hlt, hlt2, g0, hrow2, hcl2, hle2, hget2, hm1, hm, w1]
        exact ⟨R.names.length - (k + 1), by omega, rfl, k + 1, n, by omega, by omega, rfl, by simp [ht], by simp [ht, g6], hf⟩
    · simp [ht, u0, u1, g6, g7, g0, show ¬ k < R.names.length by omega]
      rw [hf, List.drop_eq_nil_of_le (by rw [List.length_zip]; omega)]
      rfl
  · rintro t _ hk ⟨rfl, hf⟩
    have ht : t.length = 38 := hk.1.trans (by simp [len_Bs])
    rw [hf]
    simp [ht, rIdx]
theorem rof_run (kd : Int) : ∃ v H', (run Try.prog E).call 22 [.pointer (some ⟨tid, 0, none⟩), .int .i64 kd] H = some (.val v, H') ∧ repInt.G H' (fun i => H.n ≤ i) v (ofF kd (R.means.zip R.values)) ∧ Same (fun _ => False) H H' := by
  suffices key : Gives ((run Try.prog E).call 22 [.pointer (some ⟨tid, 0, none⟩), .int .i64 kd] H) fun o H' => ∃ v, o = .val v ∧ repInt.G H' (fun i => H.n ≤ i) v (ofF kd (R.means.zip R.values)) ∧ Same (fun _ => False) H H' by
    obtain ⟨o, H', e, v, rfl, k⟩ := key
    exact ⟨v, H', e, k⟩
  obtain ⟨b2, rfl⟩ := repNm.G_slice h.g2
  rw [c_rOf hE, callB, bodyOf]
  simp [Try.f22]
  refine loop_mid2 (OfJ H kd R) (OfI H kd R) R.means.length ?_ ?_ ?_
  · exact ⟨Same.push _ _ _, 0, [], Nat.zero_le _, Nat.le_refl _, by simp, by simp, by simp; exact repInt.G_empty H (Nat.le_refl _), by simp⟩
  · rintro m t K hk ⟨kK, k, acc, hkl, hak, rfl, g6, gA, hf⟩
    have ht : t.length = 38 := hk.1.trans (by simp [len_Bs])
    have hh := hk.all [0, 1] (by decide +kernel)
    simp at hh
    obtain ⟨u0, u1⟩ := hh
    have hK := h.keep kK (fun _ h => h.elim)
    have g0 := hK.obj
    simp only [rt6] at g0
    obtain ⟨vb, evb⟩ := repInt.G_slice gA
    rcases Nat.lt_or_ge k R.means.length with hlt | hge
    · have hlt2 : k < R.values.length := by have := hok.n1; have := hok.n2; omega
      obtain ⟨id2, tl2, cs2, e2, hrow2, hcl2, hle2, hget2, ⟨_, hm1⟩, _⟩ := nm_cell hK.g2 hlt
      cases e2
      obtain ⟨id, tl, cs, e1, hrow, hcl, hk1, hc1⟩ := int_cell hK.g6 hlt2
      subst e1
      have hz : (R.means.zip R.values).drop k = (R.means[k], R.values[k]) :: (R.means.zip R.values).drop (k + 1) := by
        rw [List.drop_eq_getElem_cons (by rw [List.length_zip]; omega), List.getElem_zip]
      rw [hz, ofF] at hf
      generalize R.values[k] = y at *
      generalize R.means[k] = mm at *
      have w1 : IntKind.i64.wrap ((k : Int) + 1) = (k : Int) + 1 := wrap64 _ (by omega) (by have := hok.l1; have := hok.n1; omega)
      by_cases hm : mm.kind = kd
      · rw [if_pos hm] at hf
        simp only [hm] at hm1 hget2
        obtain ⟨v', K4, e4, g4, k4⟩ := repInt.G_app tf_int gA (fun i hi => by have := kK.n; omega) (by have := hok.l1; have := hok.n1; omega) (a := y) (c := [.int .i64 y]) rfl
        obtain ⟨vb', rfl⟩ := repInt.G_slice g4
        simp only [repInt] at e4
        rw [evb] at e4
        have vlt : ∀ i, vid (rd t 5) i → H.n ≤ i := fun i hi => (repInt.G_lt gA hi).2
        simp [ht, u0, u1, g6, hlt, hlt2, g0, hrow, hcl, hc1, hrow2, hcl2, hle2, hget2, hm1, evb, e4, w1]
        exact ⟨R.means.length - (k + 1), by omega, kK.then k4 (fun i hi => .inr (vlt i hi)), k + 1, acc ++ [y], by omega, by simp; omega, rfl, by simp [ht], by simp [ht]; simpa using g4, by simpa using hf⟩
      · rw [if_neg hm] at hf
        simp [ht, u0, u1, g6, hlt, hlt2, g0, hrow2, hcl2, hle2, hget2, hm1, hm, w1]
        exact ⟨R.means.length - (k + 1), by omega, kK, k + 1, acc, by omega, by omega, rfl, by simp [ht], by simp [ht]; exact gA, hf⟩
    · simp [ht, u0, u1, g6, g0, show ¬ k < R.means.length by omega]
      rw [List.drop_eq_nil_of_le (by rw [List.length_zip]; omega), ofF, List.append_nil] at hf
      refine ⟨?_, kK⟩
      rw [← hf]
      simp [ht]
      exact gA
  · rintro t K hk ⟨gA, kK⟩
    have ht : t.length = 38 := hk.1.trans (by simp [len_Bs])
    obtain ⟨vb, evb⟩ := repInt.G_slice gA
    simp [ht, evb]
    rw [evb] at gA
    exact ⟨gA, kK⟩
theorem rcells_run : ∃ v H', (run Try.prog E).call 19 [.pointer (some ⟨tid, 0, none⟩)] H = some (.val v, H') ∧ repCel.G H' (fun i => H.n ≤ i) v (celF 0 R.means) ∧ Same (fun _ => False) H H' := by
  suffices key : Gives ((run Try.prog E).call 19 [.pointer (some ⟨tid, 0, none⟩)] H) fun o H' => ∃ v, o = .val v ∧ repCel.G H' (fun i => H.n ≤ i) v (celF 0 R.means) ∧ Same (fun _ => False) H H' by
    obtain ⟨o, H', e, v, rfl, k⟩ := key
    exact ⟨v, H', e, k⟩
  obtain ⟨b2, rfl⟩ := repNm.G_slice h.g2
  rw [c_rCells hE, callB, bodyOf]
  simp [Try.f19]
  refine loop_mid2 (CelJ H R) (CelI H R) R.means.length ?_ ?_ ?_
  · exact ⟨Same.push _ _ _, 0, [], 0, Nat.zero_le _, Nat.le_refl _, by simp, by simp, by simp, by omega, by omega, by simp; exact repCel.G_empty H (Nat.le_refl _), by simp⟩
  · rintro m t K hk ⟨kK, k, acc, a, hkl, hak, rfl, g5, g4', ha0, hak2, gA, hf⟩
    have ht : t.length = 51 := hk.1.trans (by simp [len_Bs])
    have hh := hk.all [0] (by decide +kernel)
    simp at hh
    have u0 := hh
    have hK := h.keep kK (fun _ h => h.elim)
    have g0 := hK.obj
    simp only [rt6] at g0
    obtain ⟨vb, evb⟩ := repCel.G_slice gA
    have ll := hok.l1
    have ln := hok.n1
    rcases Nat.lt_or_ge k R.means.length with hlt | hge
    · obtain ⟨id2, tl2, cs2, e2, hrow2, hcl2, hle2, hget2, ⟨_, hm1⟩, ⟨_, hm2⟩⟩ := nm_cell hK.g2 hlt
      cases e2
      have hsz := hok.sz R.means[k] (List.getElem_mem hlt)
      rw [List.drop_eq_getElem_cons hlt, celF] at hf
      generalize R.means[k] = mm at *
      have w1 : IntKind.i64.wrap ((k : Int) + 1) = (k : Int) + 1 := wrap64 _ (by omega) (by omega)
      have w2 : IntKind.i64.wrap (a + max mm.size 1) = a + max mm.size 1 := wrap64 _ (by omega) (by omega)
      have ec := fun K => rclass_run hE mm.kind K
      have hm2q : cs2[k * 3 + 2]? = some (.int .i64 mm.size) := by rw [List.getElem?_eq_getElem (by omega), hm2]
      by_cases hm : clsP mm.kind = 3
      · rw [if_pos hm] at hf
        obtain ⟨v', K4, e4, g4, k4⟩ := repCel.G_app tf_cel gA (fun i hi => by have := kK.n; omega) (by omega) (a := ⟨a, mm.size⟩) (c := [.int .i64 a, .int .i64 mm.size]) rfl
        obtain ⟨vb', rfl⟩ := repCel.G_slice g4
        simp only [repCel] at e4
        rw [evb] at e4
        have vlt : ∀ i, vid (rd t 3) i → H.n ≤ i := fun i hi => (repCel.G_lt gA hi).2
        have hK4 := hK.keep k4 (fun i hi => h.top i (vlt i hi))
        have g04 := hK4.obj
        simp only [rt6] at g04
        have hrow4 := k4.at hrow2 (by simp) (fun hi => by
          have := vlt _ hi
          rcases hK.g2 with ⟨e, _⟩ | ⟨id, _, _, e, _, hc, _⟩
          · cases e
          · simp only [Value.slice.injEq, Option.some.injEq, Addr.mk.injEq] at e
            obtain ⟨⟨e, _⟩, _⟩ := e
            rw [← e] at hc
            have := h.top _ this
            omega)
        simp [ht, u0, g5, g4', hlt, g0, hrow2, hcl2, hle2, hget2, hm1, hm2, hm2q, ec, hm, evb, e4, g04, hrow4, w1, builtin_max, w2]
        exact ⟨R.means.length - (k + 1), by omega, kK.then k4 (fun i hi => .inr (vlt i hi)), k + 1, acc ++ [⟨a, mm.size⟩], a + max mm.size 1, by omega, by simp; omega, rfl, by simp [ht], by simp [ht], by omega, by omega, by simp [ht]; simpa using g4, by simpa using hf⟩
      · rw [if_neg hm] at hf
        simp [ht, u0, g5, g4', hlt, g0, hrow2, hcl2, hle2, hget2, hm1, ec, hm, w1]
        exact ⟨R.means.length - (k + 1), by omega, kK, k + 1, acc, a, by omega, by omega, rfl, by simp [ht], by simp [ht, g4'], by omega, by omega, by simp [ht]; exact gA, hf⟩
    · simp [ht, u0, g5, g0, show ¬ k < R.means.length by omega]
      rw [List.drop_eq_nil_of_le (by omega), celF, List.append_nil] at hf
      refine ⟨?_, kK⟩
      rw [← hf]
      simp [ht]
      exact gA
  · rintro t K hk ⟨gA, kK⟩
    have ht : t.length = 51 := hk.1.trans (by simp [len_Bs])
    obtain ⟨vb, evb⟩ := repCel.G_slice gA
    simp [ht, evb]
    rw [evb] at gA
    exact ⟨gA, kK⟩
end
end Go.Vm.Scope
