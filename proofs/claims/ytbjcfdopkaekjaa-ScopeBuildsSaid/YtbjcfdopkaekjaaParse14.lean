/- What is proved: the reader's 'stmt', if its 'block' and 'branch' read. -/
import Derived.Test.YtbjcfdopkaekjaaParse13
namespace Go.Vm.Parse
open Go Go.Proofs
set_option maxRecDepth 100000
set_option maxHeartbeats 4000000
set_option linter.unusedSimpArgs false
set_option linter.unusedVariables false
attribute [local simp] repCells_succ writeAt rd_Fr toList_beq gpe gpn spe gse gsn ne_r0 ne_l0 le_s0 ne_r1 ne_l1 lt_s1 le_s1 ne_r2 ne_l2 lt_s2 le_s2 ne_r3 ne_l3 lt_s3 le_s3 ne_r4 ne_l4 lt_s4 le_s4 ne_r5 ne_l5 lt_s5 le_s5 ne_r6 ne_l6 lt_s6 le_s6 ne_r7 ne_l7 lt_s7 le_s7
theorem pl_stmt : planOf Try.prog (drawN Try.f77 0) = some [(some (0, 2)), (some (0, 2)), none, none, none, none, none, none, none] := by decide +kernel
theorem RB.four {H : Heap} {S : Nat → Prop} {b : Bra} {cs : List Value} (h : RB H S b cs) : ∃ a x b1 n1 c1 b2 n2 c2, cs = [.int .i64 a, .string x, .slice b1 n1 c1, .slice b2 n2 c2] := by
  obtain ⟨v, w, rfl, h1, h2⟩ := h
  obtain ⟨b1, rfl⟩ := repEx.G_slice h1
  obtain ⟨b2, rfl⟩ := repItm.G_slice h2
  exact ⟨_, _, _, _, _, _, _, _, rfl⟩
def ForkI (B : BrP) (r lid : Nat) (L : List Tk) (lv : Int) (Hp : Heap) (sid : Nat) (at_ : Int) (res : List Bra) (s' : PS) (n m : Nat) (t : List Value) (H' : Heap) : Prop :=
  m ≤ n ∧ ∃ acc again s v, branL B L lv m acc again s = some (res, s') ∧ rd t 7 = .bool again ∧ Loc Hp r lid L sid s (sc8 7 at_ ByteArray.empty nl nl nl v nl) H' ∧ repBra.G H' (fun i => sid < i) v acc ∧ (s.c = 0 → acc.length ≤ s.p)
section
variable {E : Hooks} (hE : Plain E) {B : BrP} {r lid : Nat} {L : List Tk}
include hE
theorem stmt_walk (hB : BLt B L) (hBr : BranOK E B r lid L) {n : Nat} (ih : BlockOK E B r lid L n) : StmtOK E B r lid L (n + 1) := by
  intro lv s x s' hx h0 h24 H h
  have hr := h.lt
  have hl := h.lid_lt
  have hsm := h.small
  have aP : At (H.push (.row true 0 1 z8)) r lid L s (H.push (.row true 0 1 z8)) := ⟨Same.refl _ _, h.same (Same.push _ _ _)⟩
  obtain ⟨HA, eA, kA⟩ := now_run hE aP.rd
  have aA := aP.go (Same.none kA) (aP.rd.same kA)
  have nA := kA.n
  simp at nA
  generalize htk : tok L s.p = tk at *
  have aB := (aA.push (.row true 0 1 tk.cells)).push (.row true 0 1 (sc8 0 tk.at_ ByteArray.empty nl nl nl nl nl))
  have l0 : Loc (H.push (.row true 0 1 z8)) r lid L (HA.n + 1) s (sc8 0 tk.at_ ByteArray.empty nl nl nl nl nl) ((HA.push (.row true 0 1 tk.cells)).push (.row true 0 1 (sc8 0 tk.at_ ByteArray.empty nl nl nl nl nl))) :=
    ⟨aB, Heap.get_push_self _ _, by simp, by simp; omega, by simp; omega, by simp; omega⟩
  have hz : ∀ {s1 sc K}, Loc (H.push (.row true 0 1 z8)) r lid L (HA.n + 1) s1 sc K → K.get H.n = .row true 0 1 z8 ∧ H.n < K.n := fun l => ⟨l.at_.same.at (Heap.get_push_self _ _) (by simp) (by omega), by have := l.at_.n; simp at this; omega⟩
  have hne1 : ¬ H.n = HA.n + 1 := by omega
  have hne2 : ¬ HA.n + 1 = H.n := by omega
  rw [c_stmt hE, callB, bodyOf]
  rw [stmtP, htk] at hx
  simp only [z8, Tk.v, Tk.cells, sc8, nl] at eA l0
  by_cases c1 : tk.kind = 1
  · rw [if_pos c1] at hx
    obtain ⟨o, HB, eB, cs, rfl, kB, hB, rB⟩ := named_run hE h0 h24 hx l0.at_.rd
    have lB := l0.step kB hB
    have hzB := hz lB
    have d1 : decide (tk.kind = 1) = true := by simpa using c1
    obtain ⟨a1, a2, a3, b1, n1, c1', b2, n2, c2, b3, n3, c3, b4, n4, c4, b5, n5, c5, rfl⟩ := RS.eight rB
    simp only [z8] at hzB
    simp [Try.f77, eA, d1, eB, hzB]
    exact ret_rep repStm hr hl lB.at_ (RS.move (Same.refl (fun _ => False) _) (S' := fun i => H.n + 1 ≤ i) (fun i hi _ => ⟨by simp at hi; omega, fun h => h⟩) _ _ rB) _
  rw [if_neg c1] at hx
  have d1 : decide (tk.kind = 1) = false := by simpa using c1
  by_cases c2 : isP L s tSkip = true
  · rw [if_pos c2] at hx
    cases hx
    obtain ⟨K1, e1, l1, -⟩ := l0.take_yes hE c2
    have lz := l1.put (sc8 1 tk.at_ ByteArray.empty nl nl nl nl nl)
    have g1 := l1.get
    have t1 := l1.lt
    have hz1 := hz l1
    have hq := RS.put (H := K1.set (HA.n + 1) (.row true 0 1 (sc8 1 tk.at_ ByteArray.empty nl nl nl nl nl))) (S := fun i => HA.n + 1 < i) (kind := 1) (at_ := tk.at_) (name := ByteArray.empty) (repEx.G_nil _ _) (repStm.G_nil _ _) (repStm.G_nil _ _) (repBra.G_nil _ _) (repItm.G_nil _ _)
    simp only [tSkip, z8, sc8, nl] at e1 g1 hz1 lz hq
    simp [Try.f77, eA, d1, e1, g1, t1, hz1, hne1, hne2]
    exact lz.ret hr hl hq _
  rw [if_neg c2] at hx
  have c2' : isP L s tSkip = false := by simpa using c2
  obtain ⟨K1, e1, l1, -⟩ := l0.take_no hE c2'
  simp only [tSkip] at e1
  by_cases c3 : isP L s tIf = true
  · rw [if_pos c3] at hx
    simp only [Option.bind_eq_some_iff] at hx
    obtain ⟨⟨x1, s1⟩, hx1, ⟨b1, s2⟩, hx2, hx3⟩ := hx
    obtain ⟨K2, e2, l2, -⟩ := l1.take_yes hE c3
    have l3 := l2.put (sc8 4 tk.at_ ByteArray.empty nl nl nl nl nl)
    obtain ⟨K3, a1, a2, a3, a4, a5, a6, e3, h6, l4, g4, t4, q4, -⟩ := l3.expr hE hx1 h0 h24
    have l5 := l4.put (sc8 4 tk.at_ ByteArray.empty (.slice (some ⟨K3.n, 0, none⟩) 1 1) nl nl nl nl)
    have q5 := l4.fld_put q4 (.row true 0 1 (sc8 4 tk.at_ ByteArray.empty (.slice (some ⟨K3.n, 0, none⟩) 1 1) nl nl nl nl))
    obtain ⟨K4, bb, bm, e6, l6, b6, k6⟩ := l5.block hE ih hx2 h0 h24
    have q6 := l5.fld q5 k6
    have l7 := l6.put (sc8 4 tk.at_ ByteArray.empty (.slice (some ⟨K3.n, 0, none⟩) 1 1) (.slice bb bm bm) nl nl nl)
    have q7 := l6.fld_put q6 (.row true 0 1 (sc8 4 tk.at_ ByteArray.empty (.slice (some ⟨K3.n, 0, none⟩) 1 1) (.slice bb bm bm) nl nl nl))
    have b7 := l6.fld_put b6 (.row true 0 1 (sc8 4 tk.at_ ByteArray.empty (.slice (some ⟨K3.n, 0, none⟩) 1 1) (.slice bb bm bm) nl nl nl))
    obtain ⟨K5, e8, l8, k8⟩ := l7.is hE tElse
    have q8 := l7.fld q7 k8
    have b8 := l7.fld b7 k8
    have g2 := l2.get
    have t2 := l2.lt
    have g6 := l6.get
    have t6 := l6.lt
    have g8 := l8.get
    have t8 := l8.lt
    simp only [tIf, tThen, tElse, z8, sc8, nl] at e2 g2 e3 g4 e6 g6 e8 g8
    by_cases c : isP L s2 tElse = true
    · rw [if_pos c] at hx3
      simp only [Option.map_eq_some_iff] at hx3
      obtain ⟨⟨c1, s3⟩, hx3, hx4⟩ := hx3
      cases hx4
      obtain ⟨K6, cb, cm, e9, l9, c9, k9⟩ := l8.block hE ih hx3 h0 h24
      have q9 := l8.fld q8 k9
      have b9 := l8.fld b8 k9
      have l10 := l9.put (sc8 4 tk.at_ ByteArray.empty (.slice (some ⟨K3.n, 0, none⟩) 1 1) (.slice bb bm bm) (.slice cb cm cm) nl nl)
      have q10 := l9.fld_put q9 (.row true 0 1 (sc8 4 tk.at_ ByteArray.empty (.slice (some ⟨K3.n, 0, none⟩) 1 1) (.slice bb bm bm) (.slice cb cm cm) nl nl))
      have b10 := l9.fld_put b9 (.row true 0 1 (sc8 4 tk.at_ ByteArray.empty (.slice (some ⟨K3.n, 0, none⟩) 1 1) (.slice bb bm bm) (.slice cb cm cm) nl nl))
      have c10 := l9.fld_put c9 (.row true 0 1 (sc8 4 tk.at_ ByteArray.empty (.slice (some ⟨K3.n, 0, none⟩) 1 1) (.slice bb bm bm) (.slice cb cm cm) nl nl))
      obtain ⟨K7, e11, l11, k11⟩ := l10.must hE tFi
      have hq := RS.put (kind := 4) (at_ := tk.at_) (name := ByteArray.empty) (l10.fld q10 k11) (l10.fld b10 k11) (l10.fld c10 k11) (repBra.G_nil _ _) (repItm.G_nil _ _)
      have g9 := l9.get
      have t9 := l9.lt
      have g11 := l11.get
      have hz1 := hz l11
      simp only [tElse] at c
      simp only [tElse, tFi, z8, sc8, nl] at e9 g9 e11 g11 hz1 l11 hq
      simp [Try.f77, eA, d1, e1, e2, g2, t2, e3, h6, g4, t4, e6, g6, t6, e8, c, e9, g9, t9, e11, g11, hz1, hne1, hne2]
      exact l11.ret hr hl hq _
    · rw [if_neg c] at hx3
      cases hx3
      have c' : isP L s2 tElse = false := by simpa using c
      obtain ⟨K7, e11, l11, k11⟩ := l8.must hE tFi
      have hq := RS.put (kind := 4) (at_ := tk.at_) (name := ByteArray.empty) (l8.fld q8 k11) (l8.fld b8 k11) (repStm.G_nil _ _) (repBra.G_nil _ _) (repItm.G_nil _ _)
      have g11 := l11.get
      have hz1 := hz l11
      simp only [tElse] at c'
      simp only [tElse, tFi, z8, sc8, nl] at e11 g11 hz1 l11 hq
      simp [Try.f77, eA, d1, e1, e2, g2, t2, e3, h6, g4, t4, e6, g6, t6, e8, c', e11, g11, hz1, hne1, hne2]
      exact l11.ret hr hl hq _
  rw [if_neg c3] at hx
  have c3' : isP L s tIf = false := by simpa using c3
  obtain ⟨K2, e2, l2, -⟩ := l1.take_no hE c3'
  simp only [tIf] at e2
  by_cases c4 : isP L s tWhile = true
  · rw [if_pos c4] at hx
    simp only [Option.bind_eq_some_iff, Option.map_eq_some_iff] at hx
    obtain ⟨⟨x1, s1⟩, hx1, ⟨b1, s2⟩, hx2, hx3⟩ := hx
    cases hx3
    obtain ⟨K3, e3, l3, -⟩ := l2.take_yes hE c4
    have l4 := l3.put (sc8 5 tk.at_ ByteArray.empty nl nl nl nl nl)
    obtain ⟨K4, a1, a2, a3, a4, a5, a6, e4, h6, l5, g5, t5, q5, -⟩ := l4.expr hE hx1 h0 h24
    have l6 := l5.put (sc8 5 tk.at_ ByteArray.empty (.slice (some ⟨K4.n, 0, none⟩) 1 1) nl nl nl nl)
    have q6 := l5.fld_put q5 (.row true 0 1 (sc8 5 tk.at_ ByteArray.empty (.slice (some ⟨K4.n, 0, none⟩) 1 1) nl nl nl nl))
    obtain ⟨K5, bb, bm, e7, l7, b7, k7⟩ := l6.block hE ih hx2 h0 h24
    have q7 := l6.fld q6 k7
    have l8 := l7.put (sc8 5 tk.at_ ByteArray.empty (.slice (some ⟨K4.n, 0, none⟩) 1 1) (.slice bb bm bm) nl nl nl)
    have q8 := l7.fld_put q7 (.row true 0 1 (sc8 5 tk.at_ ByteArray.empty (.slice (some ⟨K4.n, 0, none⟩) 1 1) (.slice bb bm bm) nl nl nl))
    have b8 := l7.fld_put b7 (.row true 0 1 (sc8 5 tk.at_ ByteArray.empty (.slice (some ⟨K4.n, 0, none⟩) 1 1) (.slice bb bm bm) nl nl nl))
    obtain ⟨K6, e9, l9, k9⟩ := l8.must hE tOd
    have hq := RS.put (kind := 5) (at_ := tk.at_) (name := ByteArray.empty) (l8.fld q8 k9) (l8.fld b8 k9) (repStm.G_nil _ _) (repBra.G_nil _ _) (repItm.G_nil _ _)
    have g3 := l3.get
    have t3 := l3.lt
    have g7 := l7.get
    have t7 := l7.lt
    have g9 := l9.get
    have hz1 := hz l9
    simp only [tWhile, tDo, tOd, z8, sc8, nl] at e3 g3 e4 g5 e7 g7 e9 g9 hz1 l9 hq
    simp [Try.f77, eA, d1, e1, e2, e3, g3, t3, e4, h6, g5, t5, e7, g7, t7, e9, g9, hz1, hne1, hne2]
    exact l9.ret hr hl hq _
  rw [if_neg c4] at hx
  have c4' : isP L s tWhile = false := by simpa using c4
  obtain ⟨K3, e3, l3, -⟩ := l2.take_no hE c4'
  simp only [tWhile] at e3
  by_cases c5 : isP L s tCobegin = true
  · rw [if_pos c5] at hx
    simp only [Option.map_eq_some_iff] at hx
    obtain ⟨⟨q, s2⟩, hx2, hx3⟩ := hx
    cases hx3
    obtain ⟨K4, e4, l4, -⟩ := l3.take_yes hE c5
    have l5 := l4.put (sc8 7 tk.at_ ByteArray.empty nl nl nl nl nl)
    have g4 := l4.get
    have t4 := l4.lt
    have l5' := l5
    simp only [tCobegin, z8, sc8, nl] at e4 g4 l5'
    simp [Try.f77, eA, d1, e1, e2, e3, e4, g4, t4]
    refine loop_wp (ForkI B r lid L lv (H.push (.row true 0 1 z8)) (HA.n + 1) tk.at_ q s2 n) n ?_ ?_
    · exact ⟨Nat.le_refl n, [], true, _, nl, hx2, by simp, l5, repBra.G_nil _ _, fun _ => by simp⟩
    rintro m t H' hk ⟨hmn, acc, again, s3, v, hxl, g7, lF, gF, hlen⟩
    have ht : t.length = 171 := hk.1.trans (by simp [len_Bs])
    have hh := hk.all [0, 1, 4, 6] (by decide +kernel)
    simp at hh
    obtain ⟨u0, u1, u4, u6⟩ := hh
    have eb := bad_run hE lF.at_.rd
    cases m with
    | zero => cases hxl
    | succ m =>
    rw [branL] at hxl
    by_cases hg : again = true ∧ s3.c = 0
    · rw [if_pos hg] at hxl
      obtain ⟨rfl, hc⟩ := hg
      simp only [Option.bind_eq_some_iff] at hxl
      obtain ⟨⟨x, s4⟩, hxa, hxb⟩ := hxl
      obtain ⟨o, HC, eC, cs, rfl, kC, hC, rC⟩ := hBr _ _ _ _ _ hxa h0 h24 _ lF.at_.rd
      have lC := lF.step kC hC
      have gC := lF.fld gF kC
      obtain ⟨b, rfl⟩ := repBra.G_slice gF
      have hvl : ∀ i, vid (.slice b acc.length acc.length) i → i < H'.n ∧ HA.n + 1 < i := fun i hi => repBra.G_lt gF hi
      have nC := kC.n
      have tF := lF.lt
      have hsub := hB _ _ _ _ _ hxa
      obtain ⟨v', HD, eD, gD, kD⟩ := repBra.G_app tf_bra gC (fun i hi => by omega) (by have := hlen hc; have := lF.at_.rd.place; omega) (a := x) (c := cs) (repBra.move (Same.refl (fun _ => False) _) (fun i hi _ => ⟨⟨by omega, fun e => by have := hvl _ e; omega⟩, fun h => h⟩) _ _ rC)
      have nD := kD.n
      have rC2 : RB HC (fun i => H'.n ≤ i) x cs := rC
      obtain ⟨a1, a2, b1, n1, c1x, b2, n2, c2x, rfl⟩ := RB.four rC2
      have rlC := lC.rl
      have ownC := lC.own
      have aD : At (H.push (.row true 0 1 z8)) r lid L s4 HD := ⟨lC.at_.same.then kD (fun i hi => .inr (by have := hvl _ hi; omega)), lC.at_.rd.keep kD (fun hi => by have := hvl _ hi; omega) (fun hi => by have := hvl _ hi; omega)⟩
      have lD : Loc (H.push (.row true 0 1 z8)) r lid L (HA.n + 1) s4 (sc8 7 tk.at_ ByteArray.empty nl nl nl (.slice b acc.length acc.length) nl) HD := ⟨aD, kD.at lC.get (by simp) (fun hi => by have := hvl _ hi; omega), by have := lC.lt; omega, lC.own, lC.rl⟩
      obtain ⟨b', rfl⟩ := repBra.G_slice gD
      have lE := lD.put (sc8 7 tk.at_ ByteArray.empty nl nl nl (.slice b' (acc ++ [x]).length (acc ++ [x]).length) nl)
      have gE := lD.fld_put gD (.row true 0 1 (sc8 7 tk.at_ ByteArray.empty nl nl nl (.slice b' (acc ++ [x]).length (acc ++ [x]).length) nl))
      obtain ⟨HG, eG, kG, hG⟩ := take_run hE lE.at_.rd tSlash
      have lG := lE.step kG hG
      have gG := lE.fld gE kG
      have gF1 := lF.get
      have gC1 := lC.get
      have tC := lC.lt
      have gD1 := lD.get
      have tD := lD.lt
      have fin : s4.c = 0 → (acc ++ [x]).length ≤ (takeS L s4 tSlash).p := fun e0 => by
        have h1 := takeS_c L s4 tSlash
        have h2 := hsub.on e0
        have h4 := hlen hc
        simp
        omega
      simp only [tSlash, sc8, nl] at eG gF1 gC1 gD1
      simp only [repBra] at eD
      simp [List.length_append] at eD eG
      simp [ht, g7, u0, u1, u4, u6, eb, hc]
      refine region_plan (by exact pl_stmt) ?_
      simp [ht, g7, u0, u1, u4, u6, gF1, gC1, eC, eD, gD1, tC, tD, eG]
      refine ⟨m, by omega, by omega, _, _, _, .slice b' (acc ++ [x]).length (acc ++ [x]).length, hxb, by simp [ht, tSlash], ?_, ?_, ?_⟩
      · simpa [sc8, nl, tSlash] using lG
      · simpa [sc8, nl, tSlash] using gG
      · exact fun e0 => fin (by rw [← (takeS_c L s4 tSlash).1]; exact e0)
    · rw [if_neg hg] at hxl
      cases hxl
      obtain ⟨b, rfl⟩ := repBra.G_slice gF
      obtain ⟨KZ, eZ, lZ, kZ⟩ := lF.must hE tCoend
      have hq := RS.put (kind := 7) (at_ := tk.at_) (name := ByteArray.empty) (repEx.G_nil _ _) (repStm.G_nil _ _) (repStm.G_nil _ _) (lF.fld gF kZ) (repItm.G_nil _ _)
      have gZ := lZ.get
      have hz1 := hz lZ
      simp only [tCoend, z8, sc8, nl] at eZ gZ hz1 lZ hq
      by_cases ha : again = true
      · have hc : ¬ s2.c = 0 := fun e => hg ⟨ha, e⟩
        subst ha
        simp [ht, g7, u0, u1, u4, u6, eb, hc, eZ, gZ, hz1, hne1, hne2]
        exact lZ.ret hr hl hq _
      · have ha' : again = false := by simpa using ha
        subst ha'
        simp [ht, g7, u0, u1, u4, u6, eZ, gZ, hz1, hne1, hne2]
        exact lZ.ret hr hl hq _
  rw [if_neg c5] at hx
  have c5' : isP L s tCobegin = false := by simpa using c5
  obtain ⟨K4, e4, l4, -⟩ := l3.take_no hE c5'
  obtain ⟨K5, e5, l5, -⟩ := l4.is hE (b1 80)
  obtain ⟨K6, e6, l6, -⟩ := l5.is hE (b1 86)
  simp only [tCobegin, b1] at e4 e5 e6
  by_cases c6 : isP L s (b1 80) = true ∨ isP L s (b1 86) = true
  · rw [if_pos c6] at hx
    cases hx
    by_cases cP : isP L s (b1 80) = true
    · have hlt := isP_lt cP
      have cV : isP L s (b1 86) = false := by
        unfold isP at cP ⊢
        simp only [decide_eq_true_eq, decide_eq_false_iff_not] at cP ⊢
        rintro ⟨_, _, e⟩
        rw [cP.2.2] at e
        exact absurd e (by decide)
      rw [show (if isP L s (b1 86) = true then (9 : Int) else 8) = 8 from if_neg (by simp [cV])]
      have l7 := l5.put (sc8 8 tk.at_ ByteArray.empty nl nl nl nl nl)
      obtain ⟨K7, e7, l8, -⟩ := l7.is hE (b1 86)
      have l9 := l8.on hlt
      obtain ⟨K8, e8, l10, -⟩ := l9.must hE (b1 40)
      obtain ⟨K9, e9, l11, -⟩ := l10.name hE
      have l12 := l11.put (sc8 8 tk.at_ (nameP L (mustS L s.on (b1 40))).name nl nl nl nl nl)
      obtain ⟨KA, eB, l13, -⟩ := l12.must hE (b1 41)
      have hq := RS.put (H := KA) (S := fun i => HA.n + 1 < i) (kind := 8) (at_ := tk.at_) (name := (nameP L (mustS L s.on (b1 40))).name) (repEx.G_nil _ _) (repStm.G_nil _ _) (repStm.G_nil _ _) (repBra.G_nil _ _) (repItm.G_nil _ _)
      have g5 := l5.get
      have t5 := l5.lt
      have g11 := l11.get
      have t11 := l11.lt
      have g13 := l13.get
      have hz1 := hz l13
      have hw := wrap64 ((s.p : Int) + 1) (by omega) (by have := h.place; omega)
      have hobj := l8.at_.rd.obj
      simp only [b1] at cP cV
      simp only [b1, z8, sc8, nl] at g5 e7 e8 e9 g11 eB g13 hz1 l13 hq
      simp [Try.f77, eA, d1, e1, e2, e3, e4, e5, cP, g5, t5, e7, cV, hobj, hw, e8, e9, g11, t11, eB, g13, hz1, hne1, hne2]
      exact l13.ret hr hl hq _
    · have cP' : isP L s (b1 80) = false := by simpa using cP
      have cV : isP L s (b1 86) = true := c6.resolve_left cP
      have hlt := isP_lt cV
      have l7 := l6.put (sc8 8 tk.at_ ByteArray.empty nl nl nl nl nl)
      obtain ⟨K7, e7, l8, -⟩ := l7.is hE (b1 86)
      have l8' := l8.put (sc8 9 tk.at_ ByteArray.empty nl nl nl nl nl)
      have l9 := l8'.on hlt
      obtain ⟨K8, e8, l10, -⟩ := l9.must hE (b1 40)
      obtain ⟨K9, e9, l11, -⟩ := l10.name hE
      have l12 := l11.put (sc8 9 tk.at_ (nameP L (mustS L s.on (b1 40))).name nl nl nl nl nl)
      obtain ⟨KA, eB, l13, -⟩ := l12.must hE (b1 41)
      have hq := RS.put (H := KA) (S := fun i => HA.n + 1 < i) (kind := 9) (at_ := tk.at_) (name := (nameP L (mustS L s.on (b1 40))).name) (repEx.G_nil _ _) (repStm.G_nil _ _) (repStm.G_nil _ _) (repBra.G_nil _ _) (repItm.G_nil _ _)
      have g6 := l6.get
      have t6 := l6.lt
      have g8 := l8.get
      have t8 := l8.lt
      have g11 := l11.get
      have t11 := l11.lt
      have g13 := l13.get
      have hz1 := hz l13
      have hw := wrap64 ((s.p : Int) + 1) (by omega) (by have := h.place; omega)
      have hobj := l8'.at_.rd.obj
      rw [cV]
      simp only [b1] at cP' cV
      simp only [b1, z8, sc8, nl] at g6 e7 g8 hobj e8 e9 g11 eB g13 hz1 l13 hq
      simp [Try.f77, eA, d1, e1, e2, e3, e4, e5, cP', e6, cV, g6, t6, e7, g8, t8, hobj, hw, e8, e9, g11, t11, eB, g13, hz1, hne1, hne2]
      exact l13.ret hr hl hq _
  rw [if_neg c6] at hx
  have cP : isP L s (b1 80) = false := by
    cases hp : isP L s (b1 80)
    · rfl
    · exact absurd (.inl hp) c6
  have cV : isP L s (b1 86) = false := by
    cases hp : isP L s (b1 86)
    · rfl
    · exact absurd (.inr hp) c6
  simp only [b1] at cP cV
  by_cases c7 : isP L s tRegion = true
  · rw [if_pos c7] at hx
    obtain ⟨K7, e7, l7, -⟩ := l6.take_yes hE c7
    have l8 := l7.put (sc8 10 tk.at_ ByteArray.empty nl nl nl nl nl)
    obtain ⟨K8, e8, l9, -⟩ := l8.name hE
    have l10 := l9.put (sc8 10 tk.at_ (nameP L s.on).name nl nl nl nl nl)
    have g7 := l7.get
    have t7 := l7.lt
    have g9 := l9.get
    have t9 := l9.lt
    by_cases c : isP L (nameS L s.on) tWhen = true
    · rw [if_pos c] at hx
      simp only [Option.bind_eq_some_iff, Option.map_eq_some_iff] at hx
      obtain ⟨⟨x1, s1⟩, hx1, ⟨b1', s2⟩, hx2, hx3⟩ := hx
      cases hx3
      obtain ⟨K9, e10, l11, -⟩ := l10.take_yes hE c
      obtain ⟨KA, a1, a2, a3, a4, a5, a6, e11, h6, l12, g12, t12, q12, -⟩ := l11.expr hE hx1 h0 h24
      have l13 := l12.put (sc8 10 tk.at_ (nameP L s.on).name (.slice (some ⟨KA.n, 0, none⟩) 1 1) nl nl nl nl)
      have q13 := l12.fld_put q12 (.row true 0 1 (sc8 10 tk.at_ (nameP L s.on).name (.slice (some ⟨KA.n, 0, none⟩) 1 1) nl nl nl nl))
      obtain ⟨KB, bb, bm, e14, l14, b14, k14⟩ := l13.block hE ih hx2 h0 h24
      have q14 := l13.fld q13 k14
      have l15 := l14.put (sc8 10 tk.at_ (nameP L s.on).name (.slice (some ⟨KA.n, 0, none⟩) 1 1) (.slice bb bm bm) nl nl nl)
      have q15 := l14.fld_put q14 (.row true 0 1 (sc8 10 tk.at_ (nameP L s.on).name (.slice (some ⟨KA.n, 0, none⟩) 1 1) (.slice bb bm bm) nl nl nl))
      have b15 := l14.fld_put b14 (.row true 0 1 (sc8 10 tk.at_ (nameP L s.on).name (.slice (some ⟨KA.n, 0, none⟩) 1 1) (.slice bb bm bm) nl nl nl))
      obtain ⟨KC, e16, l16, k16⟩ := l15.must hE tOd
      have hq := RS.put (kind := 10) (at_ := tk.at_) (name := (nameP L s.on).name) (l15.fld q15 k16) (l15.fld b15 k16) (repStm.G_nil _ _) (repBra.G_nil _ _) (repItm.G_nil _ _)
      have g14 := l14.get
      have t14 := l14.lt
      have g16 := l16.get
      have hz1 := hz l16
      simp only [tRegion, tWhen, tDo, tOd, z8, sc8, nl] at e7 g7 e8 g9 e10 e11 g12 e14 g14 e16 g16 hz1 l16 hq
      simp [Try.f77, eA, d1, e1, e2, e3, e4, e5, cP, e6, cV, e7, g7, t7, e8, g9, t9, e10, e11, h6, g12, t12, e14, g14, t14, e16, g16, hz1, hne1, hne2]
      exact l16.ret hr hl hq _
    · rw [if_neg c] at hx
      simp only [Option.map_eq_some_iff] at hx
      obtain ⟨⟨b1', s2⟩, hx2, hx3⟩ := hx
      cases hx3
      have c' : isP L (nameS L s.on) tWhen = false := by simpa using c
      obtain ⟨K9, e10, l11, -⟩ := l10.take_no hE c'
      obtain ⟨KB, bb, bm, e14, l14, b14, k14⟩ := l11.block hE ih hx2 h0 h24
      have l15 := l14.put (sc8 10 tk.at_ (nameP L s.on).name nl (.slice bb bm bm) nl nl nl)
      have b15 := l14.fld_put b14 (.row true 0 1 (sc8 10 tk.at_ (nameP L s.on).name nl (.slice bb bm bm) nl nl nl))
      obtain ⟨KC, e16, l16, k16⟩ := l15.must hE tOd
      have hq := RS.put (kind := 10) (at_ := tk.at_) (name := (nameP L s.on).name) (repEx.G_nil _ _) (l15.fld b15 k16) (repStm.G_nil _ _) (repBra.G_nil _ _) (repItm.G_nil _ _)
      have g14 := l14.get
      have t14 := l14.lt
      have g16 := l16.get
      have hz1 := hz l16
      simp only [tRegion, tWhen, tDo, tOd, z8, sc8, nl] at e7 g7 e8 g9 e10 e14 g14 e16 g16 hz1 l16 hq
      simp [Try.f77, eA, d1, e1, e2, e3, e4, e5, cP, e6, cV, e7, g7, t7, e8, g9, t9, e10, e14, g14, t14, e16, g16, hz1, hne1, hne2]
      exact l16.ret hr hl hq _
  rw [if_neg c7] at hx
  have c7' : isP L s tRegion = false := by simpa using c7
  obtain ⟨K7, e7, l7, -⟩ := l6.take_no hE c7'
  simp only [tRegion] at e7
  by_cases c8 : isP L s tRequest = true
  · rw [if_pos c8] at hx
    simp only [Option.map_eq_some_iff] at hx
    obtain ⟨⟨q, s2⟩, hx2, hx3⟩ := hx
    cases hx3
    obtain ⟨K8, e8, l8, -⟩ := l7.take_yes hE c8
    have l9 := l8.put (sc8 11 tk.at_ ByteArray.empty nl nl nl nl nl)
    obtain ⟨K9, ib, im, e9, l10, i10, -⟩ := l9.items hE hx2
    have l11 := l10.put (sc8 11 tk.at_ ByteArray.empty nl nl nl nl (.slice ib im im))
    have i11 := l10.fld_put i10 (.row true 0 1 (sc8 11 tk.at_ ByteArray.empty nl nl nl nl (.slice ib im im)))
    have hq := RS.put (kind := 11) (at_ := tk.at_) (name := ByteArray.empty) (repEx.G_nil _ _) (repStm.G_nil _ _) (repStm.G_nil _ _) (repBra.G_nil _ _) i11
    have g8 := l8.get
    have t8 := l8.lt
    have g10 := l10.get
    have t10 := l10.lt
    have hz1 := hz l10
    simp only [tRequest, z8, sc8, nl] at e8 g8 e9 g10 hz1 l11 hq
    simp [Try.f77, eA, d1, e1, e2, e3, e4, e5, cP, e6, cV, e7, e8, g8, t8, e9, g10, t10, hz1, hne1, hne2]
    exact l11.ret hr hl hq _
  rw [if_neg c8] at hx
  have c8' : isP L s tRequest = false := by simpa using c8
  obtain ⟨K8, e8, l8, -⟩ := l7.take_no hE c8'
  simp only [tRequest] at e8
  by_cases c9 : isP L s tRelease = true
  · rw [if_pos c9] at hx
    simp only [Option.map_eq_some_iff] at hx
    obtain ⟨⟨q, s2⟩, hx2, hx3⟩ := hx
    cases hx3
    obtain ⟨K9, e9, l9, -⟩ := l8.take_yes hE c9
    have l10 := l9.put (sc8 12 tk.at_ ByteArray.empty nl nl nl nl nl)
    obtain ⟨KA, ib, im, e10, l11, i11, -⟩ := l10.items hE hx2
    have l12 := l11.put (sc8 12 tk.at_ ByteArray.empty nl nl nl nl (.slice ib im im))
    have i12 := l11.fld_put i11 (.row true 0 1 (sc8 12 tk.at_ ByteArray.empty nl nl nl nl (.slice ib im im)))
    have hq := RS.put (kind := 12) (at_ := tk.at_) (name := ByteArray.empty) (repEx.G_nil _ _) (repStm.G_nil _ _) (repStm.G_nil _ _) (repBra.G_nil _ _) i12
    have g9 := l9.get
    have t9 := l9.lt
    have g11 := l11.get
    have t11 := l11.lt
    have hz1 := hz l11
    simp only [tRelease, z8, sc8, nl] at e9 g9 e10 g11 hz1 l12 hq
    simp [Try.f77, eA, d1, e1, e2, e3, e4, e5, cP, e6, cV, e7, e8, e9, g9, t9, e10, g11, t11, hz1, hne1, hne2]
    exact l12.ret hr hl hq _
  rw [if_neg c9] at hx
  have c9' : isP L s tRelease = false := by simpa using c9
  obtain ⟨K9, e9, l9, -⟩ := l8.take_no hE c9'
  simp only [tRelease] at e9
  by_cases c10 : isP L s tRead = true
  · rw [if_pos c10] at hx
    obtain ⟨KA, e10, l10, -⟩ := l9.take_yes hE c10
    have l11 := l10.put (sc8 13 tk.at_ ByteArray.empty nl nl nl nl nl)
    obtain ⟨KB, e12, l12, -⟩ := l11.name hE
    have l13 := l12.put (sc8 13 tk.at_ (nameP L s.on).name nl nl nl nl nl)
    obtain ⟨KC, e14, l14, -⟩ := l13.is hE (b1 91)
    have g10 := l10.get
    have t10 := l10.lt
    have g12 := l12.get
    have t12 := l12.lt
    have g14 := l14.get
    have t14 := l14.lt
    by_cases c : isP L (nameS L s.on) (b1 91) = true
    · rw [if_pos c] at hx
      simp only [Option.map_eq_some_iff] at hx
      obtain ⟨⟨x1, s2⟩, hx2, hx3⟩ := hx
      cases hx3
      have l15 := l14.put (sc8 14 tk.at_ (nameP L s.on).name nl nl nl nl nl)
      obtain ⟨KD, a1, a2, a3, a4, a5, a6, e16, h6, l16, g16, t16, q16, -⟩ := l15.index hE hx2 h0 h24
      have l17 := l16.put (sc8 14 tk.at_ (nameP L s.on).name (.slice (some ⟨KD.n, 0, none⟩) 1 1) nl nl nl nl)
      have q17 := l16.fld_put q16 (.row true 0 1 (sc8 14 tk.at_ (nameP L s.on).name (.slice (some ⟨KD.n, 0, none⟩) 1 1) nl nl nl nl))
      have hq := RS.put (kind := 14) (at_ := tk.at_) (name := (nameP L s.on).name) q17 (repStm.G_nil _ _) (repStm.G_nil _ _) (repBra.G_nil _ _) (repItm.G_nil _ _)
      have hz1 : KD.get H.n = .row true 0 1 z8 ∧ H.n < KD.n := ⟨by have := (hz l16).1; rwa [Heap.get_push, if_neg (by omega)] at this, by omega⟩
      simp only [b1] at c
      simp only [tRead, b1, z8, sc8, nl] at e10 g10 e12 g12 e14 g14 e16 g16 hz1 l17 hq
      simp [Try.f77, eA, d1, e1, e2, e3, e4, e5, cP, e6, cV, e7, e8, e9, e10, g10, t10, e12, g12, t12, e14, c, g14, t14, e16, h6, g16, t16, hz1, hne1, hne2]
      exact l17.ret hr hl hq _
    · rw [if_neg c] at hx
      cases hx
      have c' : isP L (nameS L s.on) (b1 91) = false := by simpa using c
      have hq := RS.put (H := KC) (S := fun i => HA.n + 1 < i) (kind := 13) (at_ := tk.at_) (name := (nameP L s.on).name) (repEx.G_nil _ _) (repStm.G_nil _ _) (repStm.G_nil _ _) (repBra.G_nil _ _) (repItm.G_nil _ _)
      have hz1 := hz l14
      simp only [b1] at c'
      simp only [tRead, b1, z8, sc8, nl] at e10 g10 e12 g12 e14 g14 hz1 l14 hq
      simp [Try.f77, eA, d1, e1, e2, e3, e4, e5, cP, e6, cV, e7, e8, e9, e10, g10, t10, e12, g12, t12, e14, c', g14, t14, hz1, hne1, hne2]
      exact l14.ret hr hl hq _
  rw [if_neg c10] at hx
  have c10' : isP L s tRead = false := by simpa using c10
  obtain ⟨KA, e10, l10, -⟩ := l9.take_no hE c10'
  simp only [tRead] at e10
  by_cases c11 : isP L s tWrite = true
  · rw [if_pos c11] at hx
    simp only [Option.map_eq_some_iff] at hx
    obtain ⟨⟨x1, s2⟩, hx2, hx3⟩ := hx
    cases hx3
    obtain ⟨KB, e11, l11, -⟩ := l10.take_yes hE c11
    have l12 := l11.put (sc8 15 tk.at_ ByteArray.empty nl nl nl nl nl)
    obtain ⟨KD, a1, a2, a3, a4, a5, a6, e16, h6, l16, g16, t16, q16, -⟩ := l12.expr hE hx2 h0 h24
    have l17 := l16.put (sc8 15 tk.at_ ByteArray.empty (.slice (some ⟨KD.n, 0, none⟩) 1 1) nl nl nl nl)
    have q17 := l16.fld_put q16 (.row true 0 1 (sc8 15 tk.at_ ByteArray.empty (.slice (some ⟨KD.n, 0, none⟩) 1 1) nl nl nl nl))
    have hq := RS.put (kind := 15) (at_ := tk.at_) (name := ByteArray.empty) q17 (repStm.G_nil _ _) (repStm.G_nil _ _) (repBra.G_nil _ _) (repItm.G_nil _ _)
    have g11 := l11.get
    have t11 := l11.lt
    have hz1 : KD.get H.n = .row true 0 1 z8 ∧ H.n < KD.n := ⟨by have := (hz l16).1; rwa [Heap.get_push, if_neg (by omega)] at this, by omega⟩
    simp only [tWrite, z8, sc8, nl] at e11 g11 e16 g16 hz1 l17 hq
    simp [Try.f77, eA, d1, e1, e2, e3, e4, e5, cP, e6, cV, e7, e8, e9, e10, e11, g11, t11, e16, h6, g16, t16, hz1, hne1, hne2]
    exact l17.ret hr hl hq _
  rw [if_neg c11] at hx
  have c11' : isP L s tWrite = false := by simpa using c11
  obtain ⟨KB, e11, l11, -⟩ := l10.take_no hE c11'
  cases hx
  obtain ⟨KC, e12, l12, -⟩ := l11.fault hE 14
  have hq := RS.put (H := KC) (S := fun i => HA.n + 1 < i) (kind := 0) (at_ := tk.at_) (name := ByteArray.empty) (repEx.G_nil _ _) (repStm.G_nil _ _) (repStm.G_nil _ _) (repBra.G_nil _ _) (repItm.G_nil _ _)
  have g12 := l12.get
  have hz1 := hz l12
  simp only [tWrite, z8, sc8, nl] at e11 e12 g12 hz1 l12 hq
  simp [Try.f77, eA, d1, e1, e2, e3, e4, e5, cP, e6, cV, e7, e8, e9, e10, e11, e12, g12, hz1, hne1, hne2]
  exact l12.ret hr hl hq _
end
end Go.Vm.Parse
