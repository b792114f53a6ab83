/- What is proved: the run of 'signalboxlaw23.chain'. -/
import Derived.Test.YtblmgcfigcpoaaaExprC
namespace Go.Vm.Ex
open Go Go.Proofs Go.Vm.Parse Go.Vm.ExprLaw
set_option maxRecDepth 100000
set_option maxHeartbeats 4000000
set_option linter.unusedSimpArgs false
set_option linter.unusedVariables false
attribute [local simp] repCells_succ writeAt rd_Fr toList_beq gpe gpn spe gse gsn ne_r0 ne_l0 le_s0 ne_r1 ne_l1 lt_s1 le_s1 ne_r2 ne_l2 lt_s2 le_s2 ne_r3 ne_l3 lt_s3 le_s3 ne_r4 ne_l4 lt_s4 le_s4 ne_r5 ne_l5 lt_s5 le_s5 ne_r6 ne_l6 lt_s6 le_s6 ne_r7 ne_l7 lt_s7 le_s7
theorem c_chain (args : List Value) (H : Heap) : (run Try.prog E1).call 11 args H = callB Try.prog E1 Try.f11 args H := call_B Try.func11 rfl (by decide +kernel) rfl args H
theorem no_chain : planOf Try.prog (drawN Try.f11 0) = none := by decide +kernel
theorem pre_chain : preOf (drawN Try.f11 0) = [0, 0, 0, 0, 12, 28, 0, 64, 192, 508, 1022, 2046, 4094, 8190, 0, 16384, 49152, 114688, 245760, 507904, 1048574, 2097151, 4194303] := by decide +kernel
theorem ok_chain : freeOK (drawN Try.f11 0) [0, 0, 0, 0, 12, 28, 0, 64, 192, 508, 1022, 2046, 4094, 8190, 0, 16384, 49152, 114688, 245760, 507904, 1048574, 2097151, 4194303] = true := by decide +kernel
theorem need_chain : needAll (drawN Try.f11 0) = 2 := by decide +kernel
def sgC : Nat → List Value
  | 0 => [.string ⟨#[43]⟩, .string ⟨#[45]⟩]
  | _ => [.string ⟨#[42]⟩, .string ⟨#[47]⟩, .string ⟨#[37]⟩]
theorem sgC_at : ∀ row, row < 2 → ∀ k, k < 2 + row → (sgC row)[k]? = some (.string ⟨#[sB row k]⟩) := by
  intro row hr k hk
  rcases (show row = 0 ∨ row = 1 by omega) with rfl | rfl
  · rcases (show k = 0 ∨ k = 1 by omega) with rfl | rfl <;> rfl
  · rcases (show k = 0 ∨ k = 1 ∨ k = 2 by omega) with rfl | rfl | rfl <;> rfl
theorem sgC_len : ∀ row, row < 2 → (sgC row).length = 2 + row := by
  intro row hr
  rcases (show row = 0 ∨ row = 1 by omega) with rfl | rfl <;> rfl
theorem sgC_get {row : Nat} (hr : row < 2) {k : Nat} (hk : k < 2 + row) (h : k < (sgC row).length) : (sgC row)[k] = .string ⟨#[sB row k]⟩ := by
  have e := sgC_at row hr k hk
  rw [List.getElem?_eq_getElem h] at e
  simpa using e
theorem conv_SS {H : Heap} {id tl es : Nat} {cs : List Value} (h : H.get id = .row true tl es cs) (l c : Nat) : exConvert Try.prog 22 22 (.slice (some ⟨id, 0, none⟩) l c) H = some (.slice (some ⟨id, 0, none⟩) l c, H) := by
  simp [exConvert, h]
/-- One round's text. -/
def oneT (row : Nat) (k : Nat → Nat) (i : Nat) : ByteArray := (⟨#[32]⟩ ++ ⟨#[sB row (k i)]⟩ ++ ⟨#[32]⟩) ++ ⟨#[dB i]⟩
theorem oneT_list (row : Nat) (k : Nat → Nat) (i : Nat) : (oneT row k i).data.toList = chainOne row k i := by
  simp only [oneT, app_list2]
  rfl
theorem oneT_size (row : Nat) (k : Nat → Nat) (i : Nat) : (oneT row k i).size = 4 := by
  have := congrArg List.length (oneT_list row k i)
  exact this
theorem app_str {H : Heap} {id tl m r : Nat} {cs : List Value} {s : ByteArray} {l : List UInt8} (hg : H.get id = .row true tl 1 cs) (hl : cs.length = m) (htl : tl ≤ 1) (hr : r < H.n) (hne : r ≠ id) (hm : m ≤ 10000) (hs : s.size = 4) (hb : s.data.toList = l) :
    ∃ H', exAppendAt Try.prog [22, 9] (.slice (some ⟨id, 0, none⟩) m m) (.string s) r H = some (.slice (some ⟨r, 0, none⟩) (m + 4) (m + 4), H') ∧ H'.get r = .row true 1 1 (cs ++ l.map byteC) ∧ H'.n = H.n ∧ ∀ j, j ≠ r → j ≠ id → H'.get j = H.get j := by
  have hid := Heap.lt_of_get hg (by simp)
  have hlen : l.length = 4 := by rw [← hb]; exact hs
  have hc : cellsOf H 1 4 (.string s) = some (l.map byteC) := by
    simp only [cellsOf]
    rw [if_pos (by simp; omega), hb, List.take_of_length_le (by omega)]
    rfl
  have h1 : elemT Try.prog 22 = some 5 := by kernel_rfl
  have h2 : sizeT Try.prog 5 = some 1 := by kernel_rfl
  have h3 : bytesT Try.prog 5 = some 1 := by kernel_rfl
  have h4 : zeroT Try.prog 5 = some (.int .u8 0) := by kernel_rfl
  have h5 : Try.prog.underlying 9 = some .string := by kernel_rfl
  have h6 : lenA (.string s) = some 4 := by simp [lenA, hs]
  have hz : (Value.int .u8 0).cells.toList.length = 1 := rfl
  have htk : (cs.drop 0).take (m * 1) = cs := by rw [List.drop_zero]; exact List.take_of_length_le (by omega)
  rcases (show tl = 0 ∨ tl = 1 by omega) with rfl | rfl
  · refine ⟨H.pushAt r (.row true 1 1 (cs ++ l.map byteC)), ?_, by rw [Heap.get_pushAt (by omega), if_pos rfl], by rw [Heap.pushAt_lt hr]; rfl, fun j h1 h2 => by rw [Heap.get_pushAt (by omega), if_neg h1]⟩
    simp only [exAppendAt, h1, h5, exAppendRow, h2, h3, h4, h6, hc, hg]
    simp [hz, show ¬ m + 4 ≤ m by omega, hl, show m + 4 + 200 ≤ 140737488355328 by omega, show m + 4 ≤ 140737488355328 by omega]
    rw [← hl, List.take_length]
  · refine ⟨(H.set id .dead).pushAt r (.row true 1 1 (cs ++ l.map byteC)), ?_, by rw [Heap.get_pushAt (by simp; omega), if_pos rfl], by rw [Heap.pushAt_lt (by simpa using hr)]; rfl, fun j h1 h2 => by rw [Heap.get_pushAt (by simp; omega), if_neg h1, Heap.get_set _ _ _ hid, if_neg h2]⟩
    simp only [exAppendAt, h1, h5, exAppendRow, h2, h3, h4, h6, hc, hg]
    simp [hz, show ¬ m + 4 ≤ m by omega, hl, show m + 4 + 200 ≤ 140737488355328 by omega, show m + 4 ≤ 140737488355328 by omega]
    rw [← hl, List.take_length]
/-- What the loop keeps. -/
def ChI (H : Heap) (lv sv : Value) (row : Nat) (k : Nat → Nat) (n m : Nat) (t : List Value) (K : Heap) : Prop :=
  ∃ i id tl, i ≤ n ∧ m = n - i ∧ t.length = 38 ∧ rd t 0 = lv ∧ rd t 1 = sv ∧ rd t 5 = .slice (some ⟨id, 0, none⟩) (4 * i + 1) (4 * i + 1) ∧ rd t 6 = .int .i64 i ∧
    K.get id = .row true tl 1 ((chainL row k i).map byteC) ∧ H.n ≤ id ∧ tl ≤ 1 ∧ Same (fun _ => False) H K
def ChJ (H : Heap) (row : Nat) (k : Nat → Nat) (n : Nat) (t : List Value) (K : Heap) : Prop :=
  ∃ id tl, t.length = 38 ∧ rd t 5 = .slice (some ⟨id, 0, none⟩) (4 * n + 1) (4 * n + 1) ∧ K.get id = .row true tl 1 ((chainL row k n).map byteC) ∧ H.n ≤ id ∧ tl ≤ 1 ∧ Same (fun _ => False) H K
theorem chain_run {H : Heap} {lid sid row n cap : Nat} {cs : List Value} {xs : Nat → Int} {k : Nat → Nat} (hr : row < 2) (hl : H.get lid = .row false 0 0 cs) (hn : n ≤ 60) (hc : n ≤ cap) (hx : ∀ i, i < n → cs[i]? = some (.int .i64 (xs i)))
    (hs : H.get sid = .row true 0 1 (sgC row)) (hk : ∀ i, i < n → k i < 2 + row ∧ ∀ H, (run Try.prog E1).call 10 [.int .i64 (xs i), .int .i64 0, .int .i64 (1 + row : Nat)] H = some (.val (.int .i64 (k i)), H)) :
    Gives ((run Try.prog E1).call 11 [.slice (some ⟨lid, 0, none⟩) n cap, .slice (some ⟨sid, 0, none⟩) (2 + row) (2 + row)] H) fun o K => ∃ id tl, o = .val (.slice (some ⟨id, 0, none⟩) (4 * n + 1) (4 * n + 1)) ∧
      K.get id = .row true tl 1 ((chainL row k n).map byteC) ∧ H.n ≤ id ∧ Same (fun _ => False) H K := by
  have hlid := Heap.lt_of_get hl (by simp)
  have hsid := Heap.lt_of_get hs (by simp)
  rw [c_chain, callB, bodyOf]
  simp [Try.f11, conv_SS (Heap.get_push_self H _)]
  refine loop_mid (ChJ H row k n) (ChI H (.slice (some ⟨lid, 0, none⟩) n cap) (.slice (some ⟨sid, 0, none⟩) (2 + row) (2 + row)) row k n) n ?_ ?_ ?_
  · exact ⟨0, H.n, 0, Nat.zero_le _, by simp, by simp [Bs], by simp, by simp, by simp, by simp, by simp [chainL, gcat, byteC], Nat.le_refl _, by omega, Same.push _ _ _⟩
  · rintro m t K hkp ⟨i, id, tl, hin, rfl, ht, u0, u1, u5, u6, hg, hid, htl, kS⟩
    have hidK := Heap.lt_of_get hg (by simp)
    rcases Nat.lt_or_ge i n with hlt | hge
    · simp [ht, u0, u1, u5, u6, hlt]
      obtain ⟨hki, hkc⟩ := hk i hlt
      have Kl := kS.at hl (by simp) (fun h => h)
      have Ks := kS.at hs (by simp) (fun h => h)
      have hnK := kS.n
      have hxi := hx i hlt
      have hr8 : (i : Int).tmod 8 = (i % 8 : Nat) := by rw [Int.tmod_eq_emod_of_nonneg (by omega)]; omega
      have f_rem := fun ty a b => bin_rem (P := Try.prog) ty a b .i64 i 8 (by omega)
      rw [hr8] at f_rem
      have hlt8 : i % 8 < 8 := Nat.mod_lt _ (by omega)
      have w1 : IntKind.i64.wrap (50 + (i : Int) % 8) = 50 + (i : Int) % 8 := wrap64 _ (by omega) (by omega)
      have w2 : IntKind.u8.wrap (50 + (i : Int) % 8) = ((dB i).toNat : Int) := by
        rw [dB_nat]
        have h := (dB_tab (i % 8) hlt8).2
        unfold IntKind.wrap
        simp [IntKind.bits, IntKind.signed]
        omega
      have w3 : IntKind.i64.wrap (2 + (row : Int) - 1) = 1 + row := by rw [wrap64 _ (by omega) (by omega)]; omega
      have w4 : IntKind.i64.wrap ((i : Int) + 1) = i + 1 := wrap64 _ (by omega) (by omega)
      have f_conv : ∀ x H, exConvert Try.prog 3 5 (.int .i64 x) H = some (.int .u8 (IntKind.u8.wrap x), H) := fun _ _ => rfl
      have fI := iso_eq (hkc Heap.empty) rfl rfl
      simp only [Int.natCast_add, Int.cast_ofNat_Int] at fI
      have lenC := sgC_len row hr
      have f1 := fun x y => bin_cat2 x y ⟨#[32]⟩ ⟨#[sB row (k i)]⟩ (by show 1 + 1 ≤ _; omega)
      have f2 := fun x y => bin_cat2 x y (⟨#[32]⟩ ++ ⟨#[sB row (k i)]⟩) ⟨#[32]⟩ (by rw [ByteArray.size_append]; show 1 + 1 + 1 ≤ _; omega)
      have f3 := fun x y => bin_cat2 x y (⟨#[32]⟩ ++ ⟨#[sB row (k i)]⟩ ++ ⟨#[32]⟩) ⟨#[dB i]⟩ (by simp only [ByteArray.size_append]; show 1 + 1 + 1 + 1 ≤ _; omega)
      refine region_free (by exact no_chain) (by exact pre_chain) (by exact ok_chain) (by exact need_chain) ?_
      obtain ⟨K2, hK2⟩ : ∃ K2, K2 = K.room 2 := ⟨_, rfl⟩
      have n2 : K2.n = K.n + 2 := by rw [hK2, room_n]
      have g2 : ∀ j, K2.get j = K.get j := fun j => by rw [hK2, room_get]
      obtain ⟨K3, hK3⟩ : ∃ K3, K3 = K2.set K.n (.row true 0 1 [.int .u8 ((dB i).toNat : Int)]) := ⟨_, rfl⟩
      have n3 : K3.n = K.n + 2 := by rw [hK3]; exact n2
      have g3 : K3.get K.n = .row true 0 1 [.int .u8 ((dB i).toNat : Int)] := by rw [hK3, Heap.get_set_self _ _ (by omega)]
      have g3' : ∀ j, j ≠ K.n → K3.get j = K.get j := fun j hj => by rw [hK3, Heap.get_set _ _ _ (by omega), if_neg hj, g2]
      have hp3 : K2.pushAt K.n (.row true 0 1 [.int .u8 ((dB i).toNat : Int)]) = K3 := by rw [hK3, Heap.pushAt_lt (by omega)]
      obtain ⟨K4, e4, g4, n4, o4⟩ := app_str (r := K.n + 1) (s := oneT row k i) (l := chainOne row k i) ((g3' id (by omega)).trans hg) (by rw [List.length_map, chainL_len]) htl (by omega) (by omega) (by omega) (oneT_size row k i) (oneT_list row k i)
      rw [← hK2]
      have q1 := g2 lid
      have q2 := g2 sid
      simp only [oneT] at e4
      have f_bld : exBuildSliceAt Try.prog 22 1 [(0, .int .u8 ((dB i).toNat : Int))] K.n K2 = some (.slice (some ⟨K.n, 0, none⟩) 1 1, K3) := by
        rw [← hp3]; rfl
      have f_str : exConvert Try.prog 22 9 (.slice (some ⟨K.n, 0, none⟩) 1 1) K3 = some (.string ⟨#[dB i]⟩, K3) := by
        simp [exConvert, g3, byteList]
      simp [ht, u0, u1, u5, u6, hlt, q1, q2, Kl, Ks, hxi, fI, f_rem, w1, w2, w3, f_conv, hki, show (k i : Int) < 2 + row by omega, sgC_at row hr _ hki, fun h => sgC_get hr hki h, lenC, f1, f2, f3, f_bld, f_str, e4, -ByteArray.size_append]
      rw [if_pos ⟨⟨.inr (by omega), .inr ⟨by omega, by omega⟩⟩, ⟨.inr (by omega), .inr ⟨by omega, by omega⟩⟩, ⟨by decide, .inr ⟨by omega, by omega⟩⟩, .inr (by omega)⟩]
      simp [ht, u6, w4]
      refine ⟨n - (i + 1), by omega, i + 1, K.n + 1, 1, by omega, rfl, by simp [ht], by simp [ht, u0], by simp [ht, u1], by simp [ht]; omega, by simp [ht], ?_, by omega, by omega, ⟨by omega, fun j hj _ => ?_⟩⟩
      · rw [g4, chainL_snoc, List.map_append]; rfl
      · rw [o4 j (by omega) (by omega), g3' j (by omega)]; exact kS.get j hj (fun h => h)
    · obtain rfl : i = n := by omega
      simp [ht, u0, u1, u5, u6]
      exact ⟨id, tl, by simp [ht], by simp [ht, u5], hg, hid, htl, kS⟩
  · rintro t K hkp ⟨id, tl, ht, u5, hg, hid, htl, kS⟩
    simp [ht, u5]
    exact ⟨⟨tl, hg⟩, hid, kS⟩
end Go.Vm.Ex
