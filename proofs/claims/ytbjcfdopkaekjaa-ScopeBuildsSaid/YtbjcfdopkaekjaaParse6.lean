/- What is proved: what the reader's 'row' hands back. What is proved: what the reader's 'index' and 'fact' hand back; so what each reading of an expression does. -/
import Derived.Test.YtbjcfdopkaekjaaParse4
namespace Go.Vm.Parse
open Go Go.Proofs
set_option maxRecDepth 100000
set_option maxHeartbeats 1000000
set_option linter.unusedSimpArgs false
set_option linter.unusedVariables false
attribute [local simp] repCells_succ writeAt rd_Fr toList_beq gpe gpn spe gse gsn ne_r0 ne_l0 le_s0 ne_r1 ne_l1 lt_s1 le_s1 ne_r2 ne_l2 lt_s2 le_s2 ne_r3 ne_l3 lt_s3 le_s3 ne_r4 ne_l4 lt_s4 le_s4 ne_r5 ne_l5 lt_s5 le_s5 ne_r6 ne_l6 lt_s6 le_s6 ne_r7 ne_l7 lt_s7 le_s7
def z6 : List Value := [.int .i64 0, .int .i64 0, .int .i64 0, .int .i64 0, .string ByteArray.empty, .slice none 0 0]
theorem pl_row0 : planOf Try.prog (drawN Try.f91 0) = some [(some (0, 2)), (some (0, 2)), (some (0, 1)), none, none, none, none, none, none, none, none] := by decide +kernel
theorem tNot_eq : tNot = ⟨#[110, 111, 116]⟩ := rfl
section
variable {E : Hooks} (hE : Plain E) (r lid : Nat) (L : List Tk)
def RowOK (n : Nat) : Prop := ∀ k lv s e s', xP L n (.row k lv) s = some (e, s') → 1 ≤ k → k ≤ 7 → 0 ≤ lv → lv ≤ 24 → ∀ H, RD H r lid L s → Gives ((run Try.prog E).call 91 [.pointer (some ⟨r, 0, none⟩), .int .i64 k, .int .i64 lv] H) (RetE H r lid L e s')
def FactOK (n : Nat) : Prop := ∀ lv s e s', xP L n (.fact lv) s = some (e, s') → 0 ≤ lv → lv ≤ 24 → ∀ H, RD H r lid L s → Gives ((run Try.prog E).call 107 [.pointer (some ⟨r, 0, none⟩), .int .i64 lv] H) (RetE H r lid L e s')
def IndexOK (n : Nat) : Prop := ∀ lv s e s', xP L n (.index lv) s = some (e, s') → 0 ≤ lv → lv ≤ 24 → ∀ H, RD H r lid L s → Gives ((run Try.prog E).call 94 [.pointer (some ⟨r, 0, none⟩), .int .i64 lv] H) (RetE H r lid L e s')
end
theorem opens_ok {L : List Tk} {s : PS} {lv : Int} (h : ¬ (opensS L s lv).c ≠ 0) (h0 : s.c = 0) : opensS L s lv = s ∧ lv ≤ 24 := by
  unfold opensS at *
  split at h
  · rename_i hl
    unfold faultS at h
    rw [if_pos h0] at h
    simp at h
  · rename_i hl
    rw [if_neg hl]
    exact ⟨rfl, by omega⟩
/-- Where the loop of a row stands. -/
def RowI (r lid : Nat) (L : List Tk) (k lv : Int) (H : Heap) (X : Nat) (e : Ex) (s' : PS) (n m : Nat) (t : List Value) (H' : Heap) : Prop :=
  m ≤ n ∧ ∃ x s1 csx, xP L m (.loop k lv x) s1 = some (e, s') ∧ rd t 9 = .int .i64 (opP L s1 k) ∧ RD H' r lid L s1 ∧ Same (· = r) (H.push (.row true 0 1 z6)) H' ∧ X < H'.n ∧ H'.get X = .row true 0 1 csx ∧ RE H' (fun i => H.n + 1 ≤ i ∧ i ≠ X) x csx
section
variable {E : Hooks} (hE : Plain E) {r lid : Nat} {L : List Tk} {n : Nat}
include hE
theorem row_walk (ih : ∀ m, m ≤ n → RowOK (E := E) r lid L m ∧ FactOK (E := E) r lid L m) : RowOK (E := E) r lid L (n + 1) := by
  intro k lv s e s' hx hk1 hk7 hl0 hl24 H h
  have hr := h.lt
  have hl := h.lid_lt
  have hsm := h.small
  have h0 : RD (H.push (.row true 0 1 z6)) r lid L s := h.same (Same.push _ _ _)
  have eb := bad_run hE h0
  simp only [z6] at h0 eb
  rw [c_row hE, callB, bodyOf]
  rw [xP] at hx
  by_cases hc : s.c = 0
  · rw [if_neg (by omega)] at hx
    by_cases h7 : k = 7
    · rw [if_pos h7] at hx
      obtain ⟨o, H1, e1, cs, rfl, k1, h1, r1⟩ := (ih n (Nat.le_refl n)).2 _ _ _ _ hx hl0 hl24 _ h0
      obtain ⟨a, b, c, d, x, v, rfl, hv1, hv2⟩ := r1.six
      have hn : H.n < H1.n := by have := k1.n; simp at this; omega
      have g1 : H1.get H.n = .row true 0 1 z6 := k1.at (Heap.get_push_self _ _) (by simp) (by omega)
      simp only [z6] at g1
      simp [Try.f91, eb, hc, h7, e1, g1, hn]
      exact ⟨_, rfl, ret_store h k1 h1 r1 _⟩
    · rw [if_neg h7] at hx
      by_cases h3 : k = 3
      · rw [if_pos h3] at hx
        obtain ⟨HA, eA, kA⟩ := is_run hE h0 tNot
        have hA := h0.same kA
        have nA := kA.n
        simp at nA
        simp only [tNot_eq] at eA
        by_cases hno : isP L s tNot = false
        · rw [if_pos hno] at hx
          obtain ⟨o, H1, e1, cs, rfl, k1, h1, r1⟩ := (ih n (Nat.le_refl n)).1 _ _ _ _ _ hx (by omega) (by omega) hl0 hl24 _ hA
          obtain ⟨a, b, c, d, x, v, rfl, hv1, hv2⟩ := r1.six
          have hn : H.n < H1.n := by have := k1.n; omega
          have kk : Same (· = r) (H.push (.row true 0 1 z6)) H1 := (Same.none kA).trans k1
          have g1 : H1.get H.n = .row true 0 1 z6 := kk.at (Heap.get_push_self _ _) (by simp) (by omega)
          simp only [z6] at g1
          rw [tNot_eq] at hno
          simp [Try.f91, eb, hc, h3, eA, hno, e1, g1, hn]
          exact ⟨_, rfl, ret_store h kk h1 (RE.move (Same.refl (fun _ => False) _) (fun i hi _ => ⟨by omega, fun h => h⟩) _ _ r1) _⟩
        · rw [if_neg hno] at hx
          have hyes : isP L s tNot = true := by simpa using hno
          obtain ⟨HB, eB, kB⟩ := now_run hE hA
          have hB := hA.same kB
          have nB := kB.n
          obtain ⟨HC, eC, kC, hC⟩ := opens_run hE hB (lv + 1)
          have nC := kC.n
          have kAC : Same (· = r) (H.push (.row true 0 1 z6)) HC := ((Same.none kA).trans (Same.none kB)).trans kC
          have gC : HC.get H.n = .row true 0 1 z6 := kAC.at (Heap.get_push_self _ _) (by simp) (by omega)
          simp only [z6] at gC
          have hnC : H.n < HC.n := by omega
          have hw := wrap64 (lv + 1) (by omega) (by omega)
          rw [tNot_eq] at hyes
          generalize htk : tok L s.p = tk at *
          simp only [Tk.v, Tk.cells] at eB
          by_cases ho : (opensS L s (lv + 1)).c ≠ 0
          · rw [if_pos ho] at hx
            cases hx
            simp [Try.f91, eb, hc, h3, eA, hyes, eB, hw, eC, ho, gC, hnC]
            exact ⟨_, rfl, ret_store h kAC hC (RE.nil _ _ _ _ _ _ _) _⟩
          · rw [if_neg ho] at hx
            obtain ⟨hos, hlv⟩ := opens_ok ho hc
            rw [hos] at hx hC
            have ho2 : (opensS L s (lv + 1)).c = 0 := by rw [hos]; exact hc
            simp only [Option.map_eq_some_iff] at hx
            obtain ⟨⟨e1x, s1x⟩, hx1, hx2⟩ := hx
            cases hx2
            have hlt := isP_lt hyes
            obtain ⟨kD, hD⟩ := hC.on kAC hc hlt
            obtain ⟨o, H1, e1, cs, rfl, k1, h1, r1⟩ := (ih n (Nat.le_refl n)).1 _ _ _ _ _ hx1 (by omega) (by omega) (by omega) hlv _ hD
            obtain ⟨a, b, c, d, x, v, rfl, hv1, hv2⟩ := r1.six
            have hn : H.n < H1.n := by have := k1.n; simp at this; omega
            have kk := kD.trans k1
            have g1 : H1.get H.n = .row true 0 1 z6 := kk.at (Heap.get_push_self _ _) (by simp) (by omega)
            simp only [z6] at g1
            have hobj := hC.obj
            have hw2 := wrap64 ((s.p : Int) + 1) (by omega) (by omega)
            simp [Try.f91, eb, hc, h3, eA, hyes, eB, hw, eC, ho2, hobj, hw2, e1, g1, hn]
            exact ⟨_, rfl, ret_one h kk h1 (RE.move (Same.refl (fun _ => False) _) (fun i hi _ => ⟨by simp at hi; omega, fun h => h⟩) _ _ r1) _ _ _ _ _ _⟩
      · rw [if_neg h3] at hx
        simp only [Option.bind_eq_some_iff] at hx
        obtain ⟨⟨x0, s0⟩, hx1, hx2⟩ := hx
        have hwk := wrap64 (k + 1) (by omega) (by omega)
        obtain ⟨o, H1, e1, cs0, rfl, k1, h1, r1⟩ := (ih n (Nat.le_refl n)).1 _ _ _ _ _ hx1 (by omega) (by omega) hl0 hl24 _ h0
        have hn1 := k1.n
        simp at hn1
        have g1 : H1.get H.n = .row true 0 1 z6 := k1.at (Heap.get_push_self _ _) (by simp) (by omega)
        obtain ⟨a0, b0, c0, d0, y0, v0, rfl, hv1, hv2⟩ := r1.six
        have kA := k1.then_push (.row true 0 1 [.int .i64 a0, .int .i64 b0, .int .i64 c0, .int .i64 d0, .string y0, v0])
        have hA := h1.same (Same.push _ _ (.row true 0 1 [.int .i64 a0, .int .i64 b0, .int .i64 c0, .int .i64 d0, .string y0, v0]))
        obtain ⟨HB, eB, kB⟩ := op_run hE hA k
        have hB := hA.same kB
        have nB := kB.n
        simp at nB
        simp [Try.f91, eb, hc, h7, h3, hwk, e1, hv1, eB]
        refine loop_wp (RowI r lid L k lv H H1.n e s' n) n ?_ ?_
        · refine ⟨Nat.le_refl n, x0, s0, _, hx2, by simp, hB, kA.trans (Same.none kB), by omega, kB.at (Heap.get_push_self _ _) (by simp) (fun h => h), ?_⟩
          have := RE.move (Same.push (fun _ => False) H1 (.row true 0 1 [.int .i64 a0, .int .i64 b0, .int .i64 c0, .int .i64 d0, .string y0, v0])) (S' := fun i => H.n + 1 ≤ i ∧ i ≠ H1.n) (fun i hi hlt => ⟨⟨by simp at hi; omega, by omega⟩, fun h => h⟩) _ _ r1
          exact RE.move kB (fun i hi hlt => ⟨hi, fun h => h⟩) _ _ this
        rintro m t H' hk ⟨hmn, x, s1, csx, hxl, g9, hR, hS, hX1, gX, rX⟩
        have ht : t.length = 87 := hk.1.trans (by simp [len_Bs])
        have hh := hk.all [0, 1, 2, 6, 8] (by decide +kernel)
        simp at hh
        obtain ⟨t0, t1, t2, t6, t8⟩ := hh
        have gN : H'.get H.n = .row true 0 1 z6 := hS.at (Heap.get_push_self _ _) (by simp) (by omega)
        have hnN : H.n < H'.n := by omega
        simp only [z6] at gN
        obtain ⟨a, b, c, d, y, v, rfl, hv1, hv2⟩ := rX.six
        cases m with
        | zero => cases hxl
        | succ m =>
        rw [xP] at hxl
        by_cases hop : opP L s1 k = 0
        · rw [if_pos hop] at hxl
          cases hxl
          simp [ht, g9, hop, t0, t1, t2, t6, t8, gX, gN, hv1, hnN]
          refine ⟨_, rfl, ret_store h hS hR (RE.move (Same.refl (fun _ => False) _) (fun i hi _ => ⟨by omega, fun h => h⟩) _ _ rX) _⟩
        · rw [if_neg hop] at hxl
          simp only [Option.bind_eq_some_iff] at hxl
          obtain ⟨⟨x2, s2⟩, hxa, hxb⟩ := hxl
          have hc1 : s1.c = 0 := by
            unfold opP at hop
            split at hop
            · rename_i h; exact h.1
            · exact absurd rfl hop
          have hlt1 : s1.p < L.length := tok_ge_kind (by
            unfold opP at hop
            split at hop
            · rename_i h; rcases h.2 with h | h <;> omega
            · exact absurd rfl hop)
          obtain ⟨HC, eC, kC⟩ := now_run hE hR
          have hC := hR.same kC
          have nC := kC.n
          obtain ⟨kD, hD⟩ := hC.on (hS.trans (Same.none kC)) hc1 hlt1
          obtain ⟨o, HE, e2, cs2, rfl, k2, h2, r2⟩ := (ih m (by omega)).1 _ _ _ _ _ hxa (by omega) (by omega) hl0 hl24 _ hD
          obtain ⟨a2, b2, c2, d2, y2, v2, rfl, hw1, hw2⟩ := r2.six
          have nE := k2.n
          simp at nE
          have gEX : HE.get H1.n = .row true 0 1 [.int .i64 a, .int .i64 b, .int .i64 c, .int .i64 d, .string y, v] := k2.at (by
            rw [gsn _ (by omega), kC.get _ hX1 (fun h => h)]; exact gX) (by simp) (by omega)
          have gEN : HE.get H.n = .row true 0 1 z6 := (kD.trans k2).at (Heap.get_push_self _ _) (by simp) (by omega)
          have gDX : (HC.set r (.row true 0 1 [.slice (some ⟨lid, 0, none⟩) L.length L.length, .int .i64 (s1.p + 1), .int .i64 0, .int .i64 s1.a])).get H1.n = .row true 0 1 [.int .i64 a, .int .i64 b, .int .i64 c, .int .i64 d, .string y, v] := by
            rw [gsn _ (by omega), kC.get _ hX1 (fun h => h)]; exact gX
          have hobj := hC.obj
          have hw3 := wrap64 ((s1.p : Int) + 1) (by omega) (by omega)
          have hXE : H1.n < HE.n := by omega
          have hNE : H.n < HE.n := by omega
          simp only [z6] at gEN
          generalize htk : tok L s1.p = tk at *
          simp only [Tk.v, Tk.cells] at eC
          simp [ht, g9, hop, t0, t1, t2, t6, t8, eC, hobj, hc1, hw3]
          refine region_plan (by exact pl_row0) ?_
          generalize hHD : HC.set r (.row true 0 1 [.slice (some ⟨lid, 0, none⟩) L.length L.length, .int .i64 (s1.p + 1), .int .i64 0, .int .i64 s1.a]) = HD at *
          simp [ht, g9, hop, t0, t1, t2, t6, t8, hwk, gDX, e2, gEX, hv1, hw1, hXE]
          have rE : RE HE (fun i => H.n + 1 ≤ i ∧ i ≠ H1.n) x _ := RE.move ((Same.none (X := (· = r)) kC).trans (by
              have := Same.set (X := (· = r)) HC hC.lt rfl (.row true 0 1 [.slice (some ⟨lid, 0, none⟩) L.length L.length, .int .i64 (s1.p + 1), .int .i64 0, .int .i64 s1.a])
              rw [hHD] at this
              exact this.trans k2)) (fun i hi hlt => ⟨hi, by omega⟩) _ _ rX
          have nD : HC.n = HD.n := by rw [← hHD]; rfl
          have rE2 : RE HE (fun i => H.n + 1 ≤ i ∧ i ≠ H1.n) x2 _ := RE.move (Same.refl (fun _ => False) _) (fun i hi hlt => ⟨⟨by omega, by omega⟩, fun h => h⟩) _ _ r2
          have kG := (kD.trans k2).then_push (.row true 0 6 ([.int .i64 a, .int .i64 b, .int .i64 c, .int .i64 d, .string y, v] ++ [.int .i64 a2, .int .i64 b2, .int .i64 c2, .int .i64 d2, .string y2, v2]))
          have hG := h2.same (Same.push _ _ (.row true 0 6 ([.int .i64 a, .int .i64 b, .int .i64 c, .int .i64 d, .string y, v] ++ [.int .i64 a2, .int .i64 b2, .int .i64 c2, .int .i64 d2, .string y2, v2])))
          have mv := fun e cs (q : RE HE (fun i => H.n + 1 ≤ i ∧ i ≠ H1.n) e cs) => RE.move (Same.push (fun _ => False) HE (.row true 0 6 ([.int .i64 a, .int .i64 b, .int .i64 c, .int .i64 d, .string y, v] ++ [.int .i64 a2, .int .i64 b2, .int .i64 c2, .int .i64 d2, .string y2, v2]))) (S' := fun i => H.n + 1 ≤ i ∧ i ≠ H1.n) (fun i hi hlt => ⟨hi, fun h => h⟩) e cs q
          have rG := RE.parts 6 tk.at_ 0 (opP L s1 k) ByteArray.empty (S := fun i => H.n + 1 ≤ i ∧ i ≠ H1.n) (id := HE.n) ⟨by omega, by omega⟩ (Heap.get_push_self _ _) (REs.two (mv _ _ rE) (mv _ _ rE2))
          simp only [List.cons_append, List.nil_append] at kG hG rG
          generalize hHG : HE.push (.row true 0 6 [.int .i64 a, .int .i64 b, .int .i64 c, .int .i64 d, .string y, v, .int .i64 a2, .int .i64 b2, .int .i64 c2, .int .i64 d2, .string y2, v2]) = HG at *
          have nG : HG.n = HE.n + 1 := by rw [← hHG]; rfl
          have gGN : HG.get H.n = .row true 0 1 z6 := kG.at (Heap.get_push_self _ _) (by simp) (by omega)
          simp only [z6] at gGN
          have kF := kG.then_set (i := H1.n) (by omega) (.inr (by simp; omega)) (.row true 0 1 [.int .i64 6, .int .i64 tk.at_, .int .i64 0, .int .i64 (opP L s1 k), .string ByteArray.empty, .slice (some ⟨HE.n, 0, none⟩) 2 2])
          have sF : Same (fun i => i = H1.n) HG (HG.set H1.n (.row true 0 1 [.int .i64 6, .int .i64 tk.at_, .int .i64 0, .int .i64 (opP L s1 k), .string ByteArray.empty, .slice (some ⟨HE.n, 0, none⟩) 2 2])) := Same.set (X := fun i => i = H1.n) HG (by omega) rfl _
          have hF := hG.keep sF (by omega) (by omega)
          have rF : RE (HG.set H1.n (.row true 0 1 [.int .i64 6, .int .i64 tk.at_, .int .i64 0, .int .i64 (opP L s1 k), .string ByteArray.empty, .slice (some ⟨HE.n, 0, none⟩) 2 2])) (fun i => H.n + 1 ≤ i ∧ i ≠ H1.n) _ _ := RE.move sF (fun i hi hlt => ⟨hi, hi.2⟩) _ _ rG
          have gFX : (HG.set H1.n (.row true 0 1 [.int .i64 6, .int .i64 tk.at_, .int .i64 0, .int .i64 (opP L s1 k), .string ByteArray.empty, .slice (some ⟨HE.n, 0, none⟩) 2 2])).get H1.n = _ := Heap.get_set_self _ _ (by omega)
          have gFN : (HG.set H1.n (.row true 0 1 [.int .i64 6, .int .i64 tk.at_, .int .i64 0, .int .i64 (opP L s1 k), .string ByteArray.empty, .slice (some ⟨HE.n, 0, none⟩) 2 2])).get H.n = _ := sF.at gGN (by simp) (by omega)
          have nF : (HG.set H1.n (.row true 0 1 [.int .i64 6, .int .i64 tk.at_, .int .i64 0, .int .i64 (opP L s1 k), .string ByteArray.empty, .slice (some ⟨HE.n, 0, none⟩) 2 2])).n = HG.n := rfl
          generalize hHF : HG.set H1.n (.row true 0 1 [.int .i64 6, .int .i64 tk.at_, .int .i64 0, .int .i64 (opP L s1 k), .string ByteArray.empty, .slice (some ⟨HE.n, 0, none⟩) 2 2]) = HF at *
          have hNF : H.n < HF.n := by omega
          by_cases h4 : k = 4
          · rw [if_pos h4] at hxb
            cases hxb
            subst h4
            simp [ht, t0, t1, t2, t6, t8, gFX, gFN, hNF]
            exact ⟨_, rfl, ret_store h kF hF (RE.move (Same.refl (fun _ => False) _) (fun i hi _ => ⟨by omega, fun h => h⟩) _ _ rF) _⟩
          · rw [if_neg h4] at hxb
            obtain ⟨HI, eI, kI⟩ := op_run hE hF k
            have nI := kI.n
            simp [ht, h4, t0, t1, t2, t6, t8, eI]
            refine ⟨m, by omega, by omega, _, s2, _, hxb, ?_, hF.same kI, kF.trans (Same.none kI), by omega, kI.at gFX (by simp) (fun h => h), RE.move kI (fun i hi hlt => ⟨hi, fun h => h⟩) _ _ rF⟩
            simp [ht]
  · rw [if_pos hc] at hx
    cases hx
    simp [Try.f91, eb, hc]
    exact ⟨_, rfl, Same.push _ _ _, h0, RE.nil _ _ _ _ _ _ _⟩
end
end Go.Vm.Parse
namespace Go.Vm.Parse
open Go Go.Proofs
set_option maxRecDepth 100000
set_option maxHeartbeats 1000000
set_option linter.unusedSimpArgs false
set_option linter.unusedVariables false
attribute [local simp] repCells_succ writeAt rd_Fr toList_beq gpe gpn spe gse gsn ne_r0 ne_l0 le_s0 ne_r1 ne_l1 lt_s1 le_s1 ne_r2 ne_l2 lt_s2 le_s2 ne_r3 ne_l3 lt_s3 le_s3 ne_r4 ne_l4 lt_s4 le_s4 ne_r5 ne_l5 lt_s5 le_s5 ne_r6 ne_l6 lt_s6 le_s6 ne_r7 ne_l7 lt_s7 le_s7
theorem pl_fact0 : planOf Try.prog (drawN Try.f107 0) = some [(some (0, 2)), (some (0, 2)), none, none, none, none, none, none, none] := by decide +kernel
theorem pl_fact1 : planOf Try.prog (drawN Try.f107 1) = some [(some (0, 2)), (some (0, 2)), (some (0, 2)), (some (0, 2)), none, none, none, none, none, none] := by decide +kernel
section
variable {E : Hooks} (hE : Plain E) {r lid : Nat} {L : List Tk} {n : Nat}
include hE
theorem index_walk (ih : RowOK (E := E) r lid L n) : IndexOK (E := E) r lid L (n + 1) := by
  intro lv s e s' hx hl0 hl24 H h
  have hr := h.lt
  have hl := h.lid_lt
  have hsm := h.small
  have h0 : RD (H.push (.row true 0 1 z6)) r lid L s := h.same (Same.push _ _ _)
  obtain ⟨HA, eA, kA⟩ := is_run hE h0 (b1 91)
  have hA := h0.same kA
  have nA := kA.n
  simp at nA
  simp only [z6, b1] at eA
  have kA2 : Same (· = r) (H.push (.row true 0 1 z6)) HA := Same.none kA
  rw [c_index hE, callB, bodyOf]
  rw [xP] at hx
  by_cases hi : isP L s (b1 91) = false
  · rw [if_pos hi] at hx
    cases hx
    obtain ⟨HB, eB, kB, hB⟩ := fault_run hE hA 14
    have nB := kB.n
    have kk := kA2.trans kB
    have gB : HB.get H.n = .row true 0 1 z6 := kk.at (Heap.get_push_self _ _) (by simp) (by omega)
    have hnB : H.n < HB.n := by omega
    simp only [b1] at hi
    simp only [z6] at gB
    simp [Try.f94, eA, hi, eB, gB, hnB]
    exact ⟨_, rfl, ret_store h kk hB (RE.nil _ _ _ _ _ _ _) _⟩
  · rw [if_neg hi] at hx
    have hy : isP L s (b1 91) = true := by simpa using hi
    have hc : s.c = 0 := by
      unfold isP at hy
      simp only [decide_eq_true_eq] at hy
      exact hy.1
    have hlt := isP_lt hy
    obtain ⟨HC, eC, kC, hC⟩ := opens_run hE hA (lv + 1)
    have nC := kC.n
    have kAC := kA2.trans kC
    have hw := wrap64 (lv + 1) (by omega) (by omega)
    simp only [b1] at hy
    by_cases ho : (opensS L s (lv + 1)).c ≠ 0
    · rw [if_pos ho] at hx
      cases hx
      obtain ⟨HB, eB, kB, hB⟩ := fault_run hE hC 14
      have nB := kB.n
      have kk := kAC.trans kB
      have gB : HB.get H.n = .row true 0 1 z6 := kk.at (Heap.get_push_self _ _) (by simp) (by omega)
      have hnB : H.n < HB.n := by omega
      simp only [z6] at gB
      simp [Try.f94, eA, hy, hw, eC, ho, eB, gB, hnB]
      exact ⟨_, rfl, ret_store h kk hB (RE.nil _ _ _ _ _ _ _) _⟩
    · rw [if_neg ho] at hx
      obtain ⟨hos, hlv⟩ := opens_ok ho hc
      have ho2 : (opensS L s (lv + 1)).c = 0 := by rw [hos]; exact hc
      rw [hos] at hx hC
      simp only [Option.map_eq_some_iff] at hx
      obtain ⟨⟨e1x, s1x⟩, hx1, hx2⟩ := hx
      cases hx2
      obtain ⟨kD, hD⟩ := hC.on kAC hc hlt
      obtain ⟨o, H1, e1, cs, rfl, k1, h1, r1⟩ := ih _ _ _ _ _ hx1 (by omega) (by omega) (by omega) hlv _ hD
      obtain ⟨a, b, c, d, x, v, rfl, hv1, hv2⟩ := r1.six
      have n1 := k1.n
      simp at n1
      have kk := (kD.trans k1).then_push (.row true 0 1 [.int .i64 a, .int .i64 b, .int .i64 c, .int .i64 d, .string x, v])
      have h2 := h1.same (Same.push _ _ (.row true 0 1 [.int .i64 a, .int .i64 b, .int .i64 c, .int .i64 d, .string x, v]))
      obtain ⟨H3, e3, k3, h3⟩ := must_run hE h2 (b1 93)
      have n3 := k3.n
      simp at n3
      have k4 := kk.trans k3
      have g3 : H3.get H.n = .row true 0 1 z6 := k4.at (Heap.get_push_self _ _) (by simp) (by omega)
      have g3X : H3.get H1.n = .row true 0 1 [.int .i64 a, .int .i64 b, .int .i64 c, .int .i64 d, .string x, v] := k3.at (Heap.get_push_self _ _) (by simp) (by omega)
      have hn3 : H.n < H3.n := by omega
      have hobj := hC.obj
      have hw2 := wrap64 ((s.p : Int) + 1) (by omega) (by omega)
      simp only [z6] at g3
      simp only [b1] at e3
      have r3 : RE H3 (fun i => H.n + 1 ≤ i) _ _ := RE.move k3 (fun i hi hlt => ⟨hi, by omega⟩) _ _ (RE.move (Same.push (fun _ => False) H1 (.row true 0 1 [.int .i64 a, .int .i64 b, .int .i64 c, .int .i64 d, .string x, v])) (S' := fun i => H.n + 1 ≤ i) (fun i hi hlt => ⟨by simp at hi; omega, fun h => h⟩) _ _ r1)
      simp [Try.f94, eA, hy, hw, eC, ho2, hc, hobj, hw2, e1, hv1, e3, g3, g3X, hn3]
      exact ⟨_, rfl, ret_store h k4 h3 r3 _⟩
theorem fact_walk (ih : RowOK (E := E) r lid L n ∧ FactOK (E := E) r lid L n ∧ IndexOK (E := E) r lid L n) : FactOK (E := E) r lid L (n + 1) := by
  intro lv s e s' hx hl0 hl24 H h
  have hr := h.lt
  have hl := h.lid_lt
  have hsm := h.small
  have h0 : RD (H.push (.row true 0 1 z6)) r lid L s := h.same (Same.push _ _ _)
  obtain ⟨HA, eA, kA⟩ := now_run hE h0
  have hA := h0.same kA
  have nA := kA.n
  simp at nA
  have hT := hA.same (Same.push _ _ (.row true 0 1 (tok L s.p).cells))
  have kT : Same (fun _ => False) (H.push (.row true 0 1 z6)) (HA.push (.row true 0 1 (tok L s.p).cells)) := kA.then_push _
  have gT : (HA.push (.row true 0 1 (tok L s.p).cells)).get HA.n = .row true 0 1 (tok L s.p).cells := Heap.get_push_self _ _
  have nT : (HA.push (.row true 0 1 (tok L s.p).cells)).n = HA.n + 1 := rfl
  obtain ⟨HM, eM, kM⟩ := is_run hE hT (b1 45)
  have hM := hT.same kM
  have nM := kM.n
  have kTM := kT.trans kM
  have gMT := kM.at gT (by simp) (fun h => h)
  rw [c_fact hE, callB, bodyOf]
  rw [xP] at hx
  have hop0 : ∀ x, isP L s x = true → s.c = 0 := fun x hy => by
    unfold isP at hy
    simp only [decide_eq_true_eq] at hy
    exact hy.1
  have hw := wrap64 (lv + 1) (by omega) (by omega)
  have hw2 : s.p < L.length → IntKind.i64.wrap ((s.p : Int) + 1) = (s.p : Int) + 1 := fun hp => wrap64 _ (by omega) (by omega)
  generalize htk : tok L s.p = tk at *
  simp only [Tk.v, Tk.cells, z6, b1] at eA eM gT gMT
  by_cases cM : isP L s (b1 45) = true
  · rw [if_pos cM] at hx
    have hc := hop0 _ cM
    have hlt := isP_lt cM
    obtain ⟨HC, eC, kC, hC⟩ := opens_run hE hM (lv + 1)
    have nC := kC.n
    have kAC := (Same.none (X := (· = r)) kTM).trans kC
    have hw2 := hw2 hlt
    have gC : HC.get H.n = .row true 0 1 z6 := kAC.at (Heap.get_push_self _ _) (by simp) (by omega)
    have gCT := kC.at gMT (by simp) (by omega)
    have hnC : H.n < HC.n := by omega
    simp only [b1] at cM
    simp only [z6] at gC
    by_cases ho : (opensS L s (lv + 1)).c ≠ 0
    · rw [if_pos ho] at hx
      cases hx
      simp [Try.f107, eA, eM, cM, hw, eC, ho, gC, hnC]
      exact ⟨_, rfl, ret_store h kAC hC (RE.nil _ _ _ _ _ _ _) _⟩
    · rw [if_neg ho] at hx
      obtain ⟨hos, hlv⟩ := opens_ok ho hc
      have ho2 : (opensS L s (lv + 1)).c = 0 := by rw [hos]; exact hc
      rw [hos] at hx hC
      simp only [Option.map_eq_some_iff] at hx
      obtain ⟨⟨e1x, s1x⟩, hx1, hx2⟩ := hx
      cases hx2
      obtain ⟨kD, hD⟩ := hC.on kAC hc hlt
      obtain ⟨o, H1, e1, cs, rfl, k1, h1, r1⟩ := ih.2.1 _ _ _ _ hx1 (by omega) hlv _ hD
      obtain ⟨a, b, c, d, x, v, rfl, hv1, hv2⟩ := r1.six
      have n1 := k1.n
      simp at n1
      have kk := kD.trans k1
      have g1 : H1.get H.n = .row true 0 1 z6 := kk.at (Heap.get_push_self _ _) (by simp) (by omega)
      have gDT : (HC.set r (.row true 0 1 [.slice (some ⟨lid, 0, none⟩) L.length L.length, .int .i64 (s.p + 1), .int .i64 0, .int .i64 s.a])).get HA.n = _ := (gsn _ (by omega)).trans gCT
      have g1T := k1.at gDT (by simp) (by omega)
      have hobj := hC.obj
      have hn1 : H.n < H1.n := by omega
      have hn2 : HA.n < H1.n := by omega
      simp only [z6] at g1
      simp [Try.f107, eA, eM, cM, hw, eC, ho2, hc, hobj, hw2]
      refine region_plan (by exact pl_fact0) ?_
      simp [hw, gDT, e1, hv1, g1, g1T, hn1, hn2]
      exact ⟨_, rfl, ret_one h kk h1 (RE.move (Same.refl (fun _ => False) _) (fun i hi _ => ⟨by simp at hi; omega, fun h => h⟩) _ _ r1) _ _ _ _ _ _⟩
  · rw [if_neg cM] at hx
    have cM' : isP L s (b1 45) = false := by simpa using cM
    simp only [b1] at cM'
    have kM2 := Same.none (X := (· = r)) kTM
    have gM : HM.get H.n = .row true 0 1 z6 := kM2.at (Heap.get_push_self _ _) (by simp) (by omega)
    have hnM : H.n < HM.n := by omega
    by_cases c2 : tk.kind = 2
    · rw [if_pos c2] at hx
      cases hx
      have hlt : s.p < L.length := tok_ge_kind (by rw [htk]; omega)
      have hw2 := hw2 hlt
      obtain ⟨kD, hD⟩ := hM.on2 kM2 hlt
      have hobj := hM.obj
      have d2 : decide (tk.kind = 2) = true := by simpa using c2
      simp only [z6] at gM
      simp [Try.f107, eA, eM, cM', gMT, d2, hobj, hw2, gM, hnM, hr, show ¬ HA.n = r by omega, show ¬ H.n = r by omega]
      exact ⟨_, rfl, ret_store h kD hD (RE.nil _ _ _ _ _ _ _) _⟩
    · rw [if_neg c2] at hx
      obtain ⟨HU, eU, kU, hU⟩ := take_run hE hM tTrue
      simp only [tTrue] at eU
      by_cases cU : isP L s tTrue = true
      · rw [if_pos cU] at hx
        cases hx
        have hU : RD HU r lid L s.on := by unfold takeS at hU; rw [if_pos cU] at hU; exact hU
        have kk := kM2.trans kU
        have nU := kU.n
        have gU : HU.get H.n = .row true 0 1 z6 := kk.at (Heap.get_push_self _ _) (by simp) (by omega)
        have gUT := kU.at gMT (by simp) (by omega)
        have hnU : H.n < HU.n := by omega
        simp only [tTrue] at cU
        simp only [z6] at gU
        simp [Try.f107, eA, eM, cM', gMT, c2, eU, cU, gU, gUT, hnU]
        exact ⟨_, rfl, ret_store h kk hU (RE.nil _ _ _ _ _ _ _) _⟩
      rw [if_neg cU] at hx
      have hU : RD HU r lid L s := by unfold takeS at hU; rw [if_neg cU] at hU; exact hU
      have cU' : isP L s tTrue = false := by simpa using cU
      have nU := kU.n
      have gUT := kU.at gMT (by simp) (by omega)
      simp only [tTrue] at cU'
      obtain ⟨HV, eV, kV, hV⟩ := take_run hE hU tFalse
      simp only [tFalse] at eV
      have nV := kV.n
      have kk := (kM2.trans kU).trans kV
      have gV : HV.get H.n = .row true 0 1 z6 := kk.at (Heap.get_push_self _ _) (by simp) (by omega)
      have gVT := kV.at gUT (by simp) (by omega)
      have hnV : H.n < HV.n := by omega
      by_cases cV : isP L s tFalse = true
      · rw [if_pos cV] at hx
        cases hx
        have hV : RD HV r lid L s.on := by unfold takeS at hV; rw [if_pos cV] at hV; exact hV
        simp only [tFalse] at cV
        simp only [z6] at gV
        simp [Try.f107, eA, eM, cM', gMT, c2, eU, cU', eV, cV, gV, gVT, hnV]
        exact ⟨_, rfl, ret_store h kk hV (RE.nil _ _ _ _ _ _ _) _⟩
      rw [if_neg cV] at hx
      have hV : RD HV r lid L s := by unfold takeS at hV; rw [if_neg cV] at hV; exact hV
      have cV' : isP L s tFalse = false := by simpa using cV
      simp only [tFalse] at cV'
      obtain ⟨HX, eX, kX⟩ := is_run hE hV (b1 40)
      have hX := hV.same kX
      have nX := kX.n
      have kX2 := kk.trans (Same.none kX)
      have gX : HX.get H.n = .row true 0 1 z6 := kX2.at (Heap.get_push_self _ _) (by simp) (by omega)
      have gXT := kX.at gVT (by simp) (fun h => h)
      have hnX : H.n < HX.n := by omega
      simp only [b1] at eX
      by_cases cX : isP L s (b1 40) = true
      · rw [if_pos cX] at hx
        have hc := hop0 _ cX
        have hlt := isP_lt cX
        obtain ⟨HC, eC, kC, hC⟩ := opens_run hE hX (lv + 1)
        have nC := kC.n
        have kAC := kX2.trans kC
        have hw2 := hw2 hlt
        have gC : HC.get H.n = .row true 0 1 z6 := kAC.at (Heap.get_push_self _ _) (by simp) (by omega)
        have hnC : H.n < HC.n := by omega
        simp only [b1] at cX
        simp only [z6] at gC
        by_cases ho : (opensS L s (lv + 1)).c ≠ 0
        · rw [if_pos ho] at hx
          cases hx
          simp [Try.f107, eA, eM, cM', gMT, c2, eU, cU', eV, cV', eX, cX, hw, eC, ho, gC, hnC]
          exact ⟨_, rfl, ret_store h kAC hC (RE.nil _ _ _ _ _ _ _) _⟩
        · rw [if_neg ho] at hx
          obtain ⟨hos, hlv⟩ := opens_ok ho hc
          have ho2 : (opensS L s (lv + 1)).c = 0 := by rw [hos]; exact hc
          rw [hos] at hx hC
          simp only [Option.map_eq_some_iff] at hx
          obtain ⟨⟨e1x, s1x⟩, hx1, hx2⟩ := hx
          cases hx2
          obtain ⟨kD, hD⟩ := hC.on kAC hc hlt
          obtain ⟨o, H1, e1, cs, rfl, k1, h1, r1⟩ := ih.1 _ _ _ _ _ hx1 (by omega) (by omega) (by omega) hlv _ hD
          obtain ⟨a, b, c, d, x, v, rfl, hv1, hv2⟩ := r1.six
          have n1 := k1.n
          simp at n1
          have kk := (kD.trans k1).then_push (.row true 0 1 [.int .i64 a, .int .i64 b, .int .i64 c, .int .i64 d, .string x, v])
          have h2 := h1.same (Same.push _ _ (.row true 0 1 [.int .i64 a, .int .i64 b, .int .i64 c, .int .i64 d, .string x, v]))
          obtain ⟨H3, e3, k3, h3⟩ := must_run hE h2 (b1 41)
          have n3 := k3.n
          simp at n3
          have k4 := kk.trans k3
          have g3 : H3.get H.n = .row true 0 1 z6 := k4.at (Heap.get_push_self _ _) (by simp) (by omega)
          have g3X : H3.get H1.n = .row true 0 1 [.int .i64 a, .int .i64 b, .int .i64 c, .int .i64 d, .string x, v] := k3.at (Heap.get_push_self _ _) (by simp) (by omega)
          have hn3 : H.n < H3.n := by omega
          have hobj := hC.obj
          simp only [z6] at g3
          simp only [b1] at e3
          have r3 : RE H3 (fun i => H.n + 1 ≤ i) _ _ := RE.move k3 (fun i hi hlt => ⟨hi, by omega⟩) _ _ (RE.move (Same.push (fun _ => False) H1 (.row true 0 1 [.int .i64 a, .int .i64 b, .int .i64 c, .int .i64 d, .string x, v])) (S' := fun i => H.n + 1 ≤ i) (fun i hi hlt => ⟨by simp at hi; omega, fun h => h⟩) _ _ r1)
          simp [Try.f107, eA, eM, cM', gMT, c2, eU, cU', eV, cV', eX, cX, hw, eC, ho2, hc, hobj, hw2, e1, hv1, e3, g3, g3X, hn3]
          exact ⟨_, rfl, ret_store h k4 h3 r3 _⟩
      rw [if_neg cX] at hx
      have cX' : isP L s (b1 40) = false := by simpa using cX
      simp only [b1] at cX'
      by_cases c1 : tk.kind = 1
      · rw [if_pos c1] at hx
        have hlt : s.p < L.length := tok_ge_kind (by rw [htk]; omega)
        have hw2 := hw2 hlt
        obtain ⟨kD, hD⟩ := hX.on2 kX2 hlt
        have hobj := hX.obj
        have d1 : decide (tk.kind = 1) = true := by simpa using c1
        have gDT : (HX.set r (.row true 0 1 [.slice (some ⟨lid, 0, none⟩) L.length L.length, .int .i64 (s.p + 1), .int .i64 s.c, .int .i64 s.a])).get HA.n = _ := (gsn _ (by omega)).trans gXT
        have nD : (HX.set r (.row true 0 1 [.slice (some ⟨lid, 0, none⟩) L.length L.length, .int .i64 (s.p + 1), .int .i64 s.c, .int .i64 s.a])).n = HX.n := rfl
        generalize hHD : HX.set r (.row true 0 1 [.slice (some ⟨lid, 0, none⟩) L.length L.length, .int .i64 (s.p + 1), .int .i64 s.c, .int .i64 s.a]) = HD at *
        obtain ⟨HY, eY, kY⟩ := is_run hE hD (b1 91)
        have hY := hD.same kY
        have nY := kY.n
        have kY2 := kD.trans (Same.none kY)
        have gY : HY.get H.n = .row true 0 1 z6 := kY2.at (Heap.get_push_self _ _) (by simp) (by omega)
        have gYT := kY.at gDT (by simp) (fun h => h)
        have hnY : H.n < HY.n := by omega
        simp only [b1] at eY
        simp only [z6] at gY
        by_cases cY : isP L s.on (b1 91) = false
        · rw [if_pos cY] at hx
          cases hx
          simp only [b1] at cY
          simp [Try.f107, eA, eM, cM', gMT, c2, eU, cU', eV, cV', eX, cX', gXT, d1, hobj, hw2, hHD, eY, cY, gY, gYT, hnY]
          exact ⟨_, rfl, ret_store h kY2 hY (RE.nil _ _ _ _ _ _ _) _⟩
        · rw [if_neg cY] at hx
          have cY' : isP L s.on (b1 91) = true := by simpa using cY
          simp only [b1] at cY'
          simp only [Option.map_eq_some_iff] at hx
          obtain ⟨⟨e1x, s1x⟩, hx1, hx2⟩ := hx
          cases hx2
          obtain ⟨o, H1, e1, cs, rfl, k1, h1, r1⟩ := ih.2.2 _ _ _ _ hx1 hl0 hl24 _ hY
          obtain ⟨a, b, c, d, x, v, rfl, hv1, hv2⟩ := r1.six
          have n1 := k1.n
          have kk := kY2.trans k1
          have g1 : H1.get H.n = .row true 0 1 z6 := kk.at (Heap.get_push_self _ _) (by simp) (by omega)
          have g1T := k1.at gYT (by simp) (by omega)
          have hn1 : H.n < H1.n := by omega
          have hn2 : HA.n < H1.n := by omega
          simp only [z6] at g1
          simp [Try.f107, eA, eM, cM', gMT, c2, eU, cU', eV, cV', eX, cX', gXT, d1, hobj, hw2, hHD, eY, cY']
          refine region_plan (by exact pl_fact1) ?_
          simp [gYT, e1, hv1, g1, g1T, hn1, hn2]
          exact ⟨_, rfl, ret_one h kk h1 (RE.move (Same.refl (fun _ => False) _) (fun i hi _ => ⟨by omega, fun h => h⟩) _ _ r1) _ _ _ _ _ _⟩
      · rw [if_neg c1] at hx
        cases hx
        obtain ⟨HY, eY, kY, hY⟩ := fault_run hE hX 14
        have nY := kY.n
        have kY2 := kX2.trans kY
        have gY : HY.get H.n = .row true 0 1 z6 := kY2.at (Heap.get_push_self _ _) (by simp) (by omega)
        have hnY : H.n < HY.n := by omega
        simp only [z6] at gY
        simp [Try.f107, eA, eM, cM', gMT, c2, eU, cU', eV, cV', eX, cX', gXT, c1, eY, gY, hnY]
        exact ⟨_, rfl, ret_store h kY2 hY (RE.nil _ _ _ _ _ _ _) _⟩
/-- What the reader reads in plain words the calls read. -/
theorem x_all : ∀ n, RowOK (E := E) r lid L n ∧ FactOK (E := E) r lid L n ∧ IndexOK (E := E) r lid L n := by
  intro n
  induction n using Nat.strongRecOn with
  | _ n ih =>
    cases n with
    | zero => exact ⟨fun _ _ _ _ _ h => (by cases h), fun _ _ _ _ h => (by cases h), fun _ _ _ _ h => (by cases h)⟩
    | succ n => exact ⟨row_walk hE fun m hm => ⟨(ih m (by omega)).1, (ih m (by omega)).2.1⟩, fact_walk hE (ih n (by omega)), index_walk hE (ih n (by omega)).1⟩
end
end Go.Vm.Parse
