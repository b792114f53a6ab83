/- What is proved: 'Parse', of any source that is no longer than may be. -/
import Derived.Test.YtbjcfdopkaekjaaParse19
namespace Go.Vm.Parse
open Go Go.Proofs
set_option maxRecDepth 100000
set_option maxHeartbeats 4000000
set_option linter.unusedSimpArgs false
set_option linter.unusedVariables false
attribute [local simp] repCells_succ writeAt rd_Fr toList_beq gpe gpn spe gse gsn ne_r0 ne_l0 le_s0 ne_r1 ne_l1 lt_s1 le_s1 ne_r2 ne_l2 lt_s2 le_s2 ne_r3 ne_l3 lt_s3 le_s3 ne_r4 ne_l4 lt_s4 le_s4 ne_r5 ne_l5 lt_s5 le_s5 ne_r6 ne_l6 lt_s6 le_s6 ne_r7 ne_l7 lt_s7 le_s7
/-- The frame's slots. -/
structure PT (H : Heap) (r sid : Nat) (t : List Value) : Prop where
  len : t.length = 72
  t2 : rd t 2 = .pointer (some ⟨H.n, 0, none⟩)
  t3 : rd t 3 = .pointer (some ⟨H.n + 1, 0, none⟩)
  t6 : rd t 6 = .pointer (some ⟨r, 0, none⟩)
  t7 : rd t 7 = .pointer (some ⟨sid, 0, none⟩)
theorem PT.of {H : Heap} {r sid : Nat} {t t' : List Value} (p : PT H r sid t) (hl : t'.length = t.length) (h : AllRd t' t [2, 3, 6, 7]) : PT H r sid t' := by
  simp at h
  exact ⟨hl.trans p.len, h.1.trans p.t2, h.2.1.trans p.t3, h.2.2.1.trans p.t6, h.2.2.2.trans p.t7⟩
def ProcsI (B : BrP) (H Hp : Heap) (r lid : Nat) (L : List Tk) (sid : Nat) (name : ByteArray) (ds : List Dcl) (v : Value) (bd : Nat) (res : List Prc) (s' : PS) (n N m : Nat) (t : List Value) (K : Heap) : Prop :=
  m ≤ n ∧ ∃ acc s w, procsL B L m acc s = some (res, s') ∧ Loc Hp r lid L sid s (sr5 name v w nl nl) K ∧ repDcl.G K (fun i => sid < i ∧ i < bd) v ds ∧ repPrc.G K (fun i => bd ≤ i) w acc ∧ acc.length ≤ s.p ∧ bd ≤ K.n
def ProcsJ (H Hp : Heap) (r lid : Nat) (L : List Tk) (sid : Nat) (name : ByteArray) (ds : List Dcl) (ps : List Prc) (s' : PS) (t : List Value) (K : Heap) : Prop :=
  PT H r sid t ∧ ∃ v w, Loc Hp r lid L sid s' (sr5 name v w nl nl) K ∧ repDcl.G K (fun i => sid < i) v ds ∧ repPrc.G K (fun i => sid < i) w ps
def ClaimsJ (H Hp : Heap) (r lid : Nat) (L : List Tk) (sid : Nat) (name : ByteArray) (ds : List Dcl) (ps : List Prc) (cs : List Itm) (s' : PS) (t : List Value) (K : Heap) : Prop :=
  PT H r sid t ∧ ∃ v w x, Loc Hp r lid L sid s' (sr5 name v w x nl) K ∧ repDcl.G K (fun i => sid < i) v ds ∧ repPrc.G K (fun i => sid < i) w ps ∧ repItm.G K (fun i => sid < i) x cs
def EndJ (H Hp : Heap) (r lid : Nat) (L : List Tk) (sid : Nat) (S : Src) (s' : PS) (t : List Value) (K : Heap) : Prop :=
  PT H r sid t ∧ ∃ sc, Loc Hp r lid L sid s' sc K ∧ RSrc K (fun i => sid < i) S sc
theorem RSrc.slices {H : Heap} {S : Nat → Prop} {p : Src} {cs : List Value} (h : RSrc H S p cs) : ∃ x a1 a2 a3 b1 b2 b3 c1 c2 c3 d1 d2 d3, cs = sr5 x (.slice a1 a2 a3) (.slice b1 b2 b3) (.slice c1 c2 c3) (.slice d1 d2 d3) := by
  obtain ⟨v1, v2, v3, v4, rfl, h1, h2, h3, h4⟩ := h
  obtain ⟨b1, rfl⟩ := repDcl.G_slice h1
  obtain ⟨b2, rfl⟩ := repPrc.G_slice h2
  obtain ⟨b3, rfl⟩ := repItm.G_slice h3
  obtain ⟨b4, rfl⟩ := repStm.G_slice h4
  exact ⟨_, _, _, _, _, _, _, _, _, _, _, _, _, rfl⟩
theorem RPrc.slices {H : Heap} {S : Nat → Prop} {p : Prc} {cs : List Value} (h : RPrc H S p cs) : ∃ a x a1 a2 a3 b1 b2 b3 c1 c2 c3, cs = pc5 a x (.slice a1 a2 a3) (.slice b1 b2 b3) (.slice c1 c2 c3) := by
  obtain ⟨v1, v2, v3, rfl, h1, h2, h3⟩ := h
  obtain ⟨b1, rfl⟩ := repIdn.G_slice h1
  obtain ⟨b2, rfl⟩ := repIdn.G_slice h2
  obtain ⟨b3, rfl⟩ := repStm.G_slice h3
  exact ⟨_, _, _, _, _, _, _, _, _, _, _, rfl⟩
section
variable {E : Hooks} (hE : Plain E) {B : BrP}
include hE
/-- What the reader of bytes says of a slice that stands in a heap. -/
def AllOK (E : Hooks) (H : Heap) (v : Value) (src : List UInt8) : Prop := ∀ q, lexFrom src (src.length + 1) 0 [] = some q → ∀ X, Same (fun _ => False) H X → Gives ((run Try.prog E).call 35 [v] X) (RetL X q)
theorem AllOK.bs {H : Heap} {sid off cap : Nat} {src : List UInt8} (hb : BS H sid off cap src) (hsm : src.length ≤ 4096) : AllOK E H (.slice (some ⟨sid, off, none⟩) src.length cap) src :=
  fun q hq X k => all_walk hE (hb.same k (fun h => h)) hsm hq
theorem AllOK.nil (H : Heap) : AllOK E H (.slice none 0 0) [] := by
  intro q hq X kX
  simp [lexFrom] at hq
  subst hq
  rw [c_All hE, callB, bodyOf]
  simp [Try.f35]
  refine loop_wp (fun m t K => rd t 5 = .int .i64 0 ∧ rd t 4 = .slice (some ⟨X.n + 1, 0, none⟩) 0 0 ∧ K = (X.push (.row true 0 1 [.int .i64 0, .int .i64 0])).push (.row true 0 4 [])) 0 ?_ ?_
  · exact ⟨by simp, by simp, rfl⟩
  rintro m t K hk ⟨g5, g4, rfl⟩
  have ht : t.length = 193 := hk.1.trans (by simp [len_Bs])
  have hh := hk.all [0, 3] (by decide +kernel)
  simp at hh
  obtain ⟨t0, t3⟩ := hh
  obtain ⟨H2, e1, e2, e3, e4⟩ := app_one tf_tok (H := ((X.push (.row true 0 1 [.int .i64 0, .int .i64 0])).push (.row true 0 4 [])).push (.row true 0 4 [.int .i64 5, .int .i64 0, .int .i64 0, .string ByteArray.empty])) (id := X.n + 1) (tl := 0) (n := 0) (xid := X.n + 1 + 1) (cs := []) (c := [.int .i64 5, .int .i64 0, .int .i64 0, .string ByteArray.empty]) (xt := 0) (xe := 4) (xo := true) (xc := 1)
    (by rw [Heap.get_push, if_neg (by simp)]; exact Heap.get_push_self _ _) rfl (by omega) rfl (by exact Heap.get_push_self _ _) (by omega)
  simp only [Heap.n_push] at e1 e2 e3
  have g1 : H2.get X.n = .row true 0 1 [.int .i64 0, .int .i64 0] := e4.at (by rw [Heap.get_push, if_neg (by simp), Heap.get_push, if_neg (by simp), Heap.get_push_self]) (by simp) (by omega)
  have kp : Same (fun _ => False) X (((X.push (.row true 0 1 [.int .i64 0, .int .i64 0])).push (.row true 0 4 [])).push (.row true 0 4 [.int .i64 5, .int .i64 0, .int .i64 0, .string ByteArray.empty])) := ((Same.push _ _ _).then_push _).then_push _
  simp [ht, g5, g4, t0, t3, e1, g1, show X.n < H2.n by omega]
  refine ⟨(kp.then e4 (fun i hi => .inr (by omega))).then_set (by omega) (.inr (Nat.le_refl _)) _, X.n + 1 + 1 + 1, by omega, rfl, 1, by omega, ?_⟩
  rw [Heap.get_set _ _ _ (by omega), if_neg (by omega)]
  exact e2
theorem parse_walk0 (hB : ∀ L, BLt B L) (hBr : ∀ r lid L, BranOK E B r lid L) {H : Heap} {v : Value} {src : List UInt8} (hv : isTuple v = false) (hall : AllOK E H v src) (hsm : src.length ≤ 4096) {n : Nat} {res : Src ⊕ (Int × Int)} (hx : parseP B src n = some res) :
    Gives ((run Try.prog E).call 13 [v] H) (RetP H res) := by
  unfold parseP at hx
  simp only [Option.bind_eq_some_iff] at hx
  obtain ⟨q, hlex, hx⟩ := hx
  obtain ⟨o, HA, eA, kA, hq⟩ := hall q hlex ((H.push (.row true 0 1 (sr5 ByteArray.empty nl nl nl nl))).push (.row true 0 1 [.int .i64 0, .int .i64 0])) ((Same.push _ _ _).then_push _)
  have nA := kA.n
  simp at nA
  have gA0 : HA.get H.n = .row true 0 1 (sr5 ByteArray.empty nl nl nl nl) := kA.at (by rw [Heap.get_push, if_neg (by simp), Heap.get_push_self]) (by simp) (fun h => h)
  have gA1 : HA.get (H.n + 1) = .row true 0 1 [.int .i64 0, .int .i64 0] := kA.at (Heap.get_push_self _ _) (by simp) (fun h => h)
  have kH : Same (fun _ => False) H HA := ((Same.push _ _ _).then_push _).trans kA
  have tA0 : H.n < HA.n := by omega
  have tA1 : H.n + 1 < HA.n := by omega
  rw [c_Parse hE, callB, bodyOf]
  simp only [sr5, nl] at gA0 eA
  match q, hlex, hx, hq with
  | .inr (c, p), hlex, hx, hq =>
    cases hx
    simp only at hq
    subst hq
    have hc := lexFrom_bad hlex
    simp [Try.f13, eA, hc]
    refine region_plan (by exact pl_parse0) ?_
    simp [gA0, gA1, tA0, tA1]
    refine ⟨(kH.then_push _).then_set (by simp; omega) (.inr (by omega)) _ |>.then_set (by simp; omega) (.inr (by omega)) _, ?_⟩
    simp [sr5]
  | .inl L, hlex, hx, hq =>
    obtain ⟨id, hid, rfl, tl, htl, hrow⟩ := hq
    have hLl := lexFrom_len hlex
    simp at hLl
    simp only [srcP, Option.bind_eq_some_iff, Option.map_eq_some_iff] at hx
    obtain ⟨⟨ds, s1⟩, hx1, ⟨ps, s2⟩, hx2, ⟨cl, s3⟩, hx3, ⟨bd, s4⟩, hx4, hx5⟩ := hx
    have hrd : RD ((HA.push (.row true 0 1 [.int .i64 0, .int .i64 0])).push (.row true 0 1 [.slice (some ⟨id, 0, none⟩) L.length L.length, .int .i64 0, .int .i64 0, .int .i64 0])) (HA.n + 1) id L ⟨0, 0, 0⟩ := by
      have hidn := Heap.lt_of_get hrow (by simp)
      exact ⟨Heap.get_push_self _ _, ⟨tl, by rw [Heap.get_push, if_neg (by simp; omega), Heap.get_push, if_neg (by omega)]; exact hrow⟩, by omega, Nat.zero_le _⟩
    have hidn := Heap.lt_of_get hrow (by simp)
    generalize hHp : (HA.push (.row true 0 1 [.int .i64 0, .int .i64 0])).push (.row true 0 1 [.slice (some ⟨id, 0, none⟩) L.length L.length, .int .i64 0, .int .i64 0, .int .i64 0]) = Hp at *
    have nHp : Hp.n = HA.n + 2 := by rw [← hHp]; rfl
    have kHp : Same (fun _ => False) H Hp := by rw [← hHp]; exact (kH.then_push _).then_push _
    have gp0 : Hp.get H.n = .row true 0 1 [.string ByteArray.empty, .slice none 0 0, .slice none 0 0, .slice none 0 0, .slice none 0 0] := by rw [← hHp, Heap.get_push, if_neg (by simp; omega), Heap.get_push, if_neg (by omega)]; exact gA0
    have gp1 : Hp.get (H.n + 1) = .row true 0 1 [.int .i64 0, .int .i64 0] := by rw [← hHp, Heap.get_push, if_neg (by simp; omega), Heap.get_push, if_neg (by omega)]; exact gA1
    have aP : At Hp (HA.n + 1) id L ⟨0, 0, 0⟩ Hp := ⟨Same.refl _ _, hrd⟩
    obtain ⟨K1, e1, k1, d1⟩ := must_run hE aP.rd tProgram
    have a1 := aP.go k1 d1
    obtain ⟨K2, e2, k2, d2⟩ := name_run hE a1.rd
    have a2 := a1.go k2 d2
    have n2 := a2.n
    generalize hnm : (nameP L (mustS L ⟨0, 0, 0⟩ tProgram)).name = nm at *
    have l2 : Loc Hp (HA.n + 1) id L K2.n (nameS L (mustS L ⟨0, 0, 0⟩ tProgram)) (sr5 nm nl nl nl nl) (K2.push (.row true 0 1 (sr5 nm nl nl nl nl))) :=
      ⟨a2.push _, Heap.get_push_self _ _, by simp, n2, by omega, by omega⟩
    obtain ⟨K3, e3, l3, k3⟩ := l2.must hE tSemi
    obtain ⟨o4, K4, e4, v4, rfl, k4, d4, g4⟩ := decls_run hE hx1 l3.at_.rd
    have l4 := l3.step k4 d4
    obtain ⟨b4, rfl⟩ := repDcl.G_slice g4
    have t3 := l3.lt
    have g4' : repDcl.G K4 (fun i => K2.n < i) (.slice b4 ds.length ds.length) ds := repDcl.G_move (Same.refl (fun _ => False) _) (fun i hi _ => ⟨by omega, fun h => h⟩) g4
    have l5 := l4.put (sr5 nm (.slice b4 ds.length ds.length) nl nl nl)
    have g5 := l4.fld_put g4' (.row true 0 1 (sr5 nm (.slice b4 ds.length ds.length) nl nl nl))
    have gl4 := l4.get
    have tl4 := l4.lt
    have l5x := l5
    simp only [Idn.cells, hnm] at e2
    simp only [tProgram, tSemi, sr5, nl] at e1 e2 e3 e4 gl4 l5x
    simp [Try.f13, eA, hHp, e1, e2, e3, e4, gl4, tl4]
    refine loop_mid (ProcsJ H Hp (HA.n + 1) id L K2.n nm ds ps s2) (ProcsI B H Hp (HA.n + 1) id L K2.n nm ds (.slice b4 ds.length ds.length) K4.n ps s2 n n) n ?_ ?_ ?_
    · exact ⟨Nat.le_refl n, [], _, nl, hx2, l5, repDcl.G_move (Same.refl (fun _ => False) _) (fun i hi hlt => ⟨⟨hi, hlt⟩, fun h => h⟩) g5, repPrc.G_nil _ _, by simp, Nat.le_refl _⟩
    · rintro m t K hk ⟨hmn, acc, s6, w, hxl, lF, gv, gF, hlen, hbd⟩
      have ht : t.length = 72 := hk.1.trans (by simp [len_Bs])
      have hh := hk.all [2, 3, 6, 7] (by decide +kernel)
      simp at hh
      obtain ⟨u2, u3, u6, u7⟩ := hh
      have ow := lF.own
      have rl := lF.rl
      cases m with
      | zero => cases hxl
      | succ m =>
      rw [procsL] at hxl
      by_cases hi : isP L s6 tProcedure = true
      · rw [if_pos hi] at hxl
        simp only [Option.bind_eq_some_iff] at hxl
        obtain ⟨⟨pr, s7⟩, hxa, hxb⟩ := hxl
        obtain ⟨K5, e5, l5', k5⟩ := lF.take_yes hE hi
        obtain ⟨oC, KC, eC, cs, rfl, kC, dC, rC⟩ := proc_run hE (st_all hE (hB L) (hBr _ _ _) m).2.1 hxa l5'.at_.rd
        have lC := l5'.step kC dC
        have n5 := k5.n
        have nC := kC.n
        have hlt := procP_lt (hB L) hxa
        have gA : repPrc.G KC (fun i => K4.n ≤ i) w acc := repPrc.G_move (k5.trans kC) (fun i hi _ => ⟨hi, by omega⟩) gF
        have gvA : repDcl.G KC (fun i => K2.n < i ∧ i < K4.n) (.slice b4 ds.length ds.length) ds := repDcl.G_move (k5.trans kC) (fun i hi _ => ⟨hi, by omega⟩) gv
        obtain ⟨b0, rfl⟩ := repPrc.G_slice gF
        have hpl := lF.at_.rd.place
        have hwl : ∀ i, vid (.slice b0 acc.length acc.length) i → i < K.n := fun i hi => (repPrc.G_lt gF hi).1
        have rC2 : RPrc KC (fun i => K5.n ≤ i) pr cs := rC
        obtain ⟨p1, p2, p3, p4, p5, p6, p7, p8, p9, p10, p11, rfl⟩ := rC2.slices
        obtain ⟨b', KB, eB, lB, gB, tB, rB, kB⟩ := lC.grow2 repPrc tf_prc (bd := K4.n) (by omega) (by omega) gA (by omega) (a := pr) (c := pc5 p1 p2 (.slice p3 p4 p5) (.slice p6 p7 p8) (.slice p9 p10 p11)) (repPrc.move (Same.refl (fun _ => False) _) (fun i hi _ => ⟨⟨by omega, fun e => by have := hwl _ e; omega⟩, fun h => h⟩) _ _ rC)
        have nB := kB.n
        have gvB : repDcl.G KB (fun i => K2.n < i ∧ i < K4.n) _ ds := repDcl.G_move kB (fun i hi _ => ⟨hi, by omega⟩) gvA
        have lD := lB.put (sr5 nm (.slice b4 ds.length ds.length) (.slice b' (acc.length + 1) (acc.length + 1)) nl nl)
        have rD := repPrc.G_set rB tB (S' := fun i => K4.n ≤ i) (fun j hj => ⟨hj, by omega⟩) (.row true 0 1 (sr5 nm (.slice b4 ds.length ds.length) (.slice b' (acc.length + 1) (acc.length + 1)) nl nl))
        have rvD := repDcl.G_set gvB tB (S' := fun i => K2.n < i ∧ i < K4.n) (fun j hj => ⟨hj, by omega⟩) (.row true 0 1 (sr5 nm (.slice b4 ds.length ds.length) (.slice b' (acc.length + 1) (acc.length + 1)) nl nl))
        have g1 := l5'.get
        have g2 := lC.get
        have t2 := lC.lt
        simp only [repPrc, pc5, sr5, nl, tProcedure] at e5 eC eB g1 g2 gB
        simp [ht, u2, u3, u6, u7, e5]
        refine region_plan (by exact pl_parse1) ?_
        simp [ht, u2, u3, u6, u7, g1, g2, t2, eC, eB, gB, tB]
        refine ⟨m, by omega, by omega, _, _, .slice b' (acc.length + 1) (acc.length + 1), hxb, lD, rvD, rD, ?_, by simp; omega⟩
        have := hlt.le.place
        simp [PS.on] at this ⊢
        omega
      · rw [if_neg hi] at hxl
        cases hxl
        have hi' : isP L s2 tProcedure = false := by simpa using hi
        obtain ⟨K5, e5, l5', k5⟩ := lF.take_no hE hi'
        simp only [tProcedure] at e5
        simp [ht, u2, u3, u6, u7, e5]
        exact ⟨⟨by simp [ht], by simp [ht, u2], by simp [ht, u3], by simp [ht, u6], by simp [ht, u7]⟩, _, w, l5', lF.fld (repDcl.G_move (Same.refl (fun _ => False) _) (fun i hi _ => ⟨hi.1, fun h => h⟩) gv) k5, lF.fld (repPrc.G_move (Same.refl (fun _ => False) _) (fun i hi _ => ⟨by omega, fun h => h⟩) gF) k5⟩
    · rintro t K hk ⟨⟨ht, u2, u3, u6, u7⟩, v, w, lF, gv, gw⟩
      obtain ⟨bv, rfl⟩ := repDcl.G_slice gv
      obtain ⟨bw, rfl⟩ := repPrc.G_slice gw
      obtain ⟨K5, e5, k5, d5⟩ := take_run hE lF.at_.rd tClaims
      have l5' := lF.step k5 d5
      have gv5 := lF.fld gv k5
      have gw5 := lF.fld gw k5
      simp only [tClaims] at e5
      simp [ht, u2, u3, u6, u7, e5]
      unfold claimsP at hx3
      refine ends_cut (ClaimsJ H Hp (HA.n + 1) id L K2.n nm ds ps cl s3) (ends_cond (fun hb => ?_) (fun hb => ?_)) ?_
      · have hi : isP L s2 tClaims = true := hb
        rw [if_pos hi] at hx3
        simp only [Option.map_eq_some_iff] at hx3
        obtain ⟨⟨it, s5⟩, hx31, hx32⟩ := hx3
        cases hx32
        rw [takeS_yes hi] at l5'
        obtain ⟨K6, bi, im, e6, l6, i6, k6⟩ := l5'.items hE hx31
        have l7 := l6.put (sr5 nm (.slice bv ds.length ds.length) (.slice bw ps.length ps.length) (.slice bi im im) nl)
        obtain ⟨K8, e8, l8, k8⟩ := l7.must hE tSemi
        have mv : ∀ {α : Type} {ρ : Rep α} {v : Value} {q : List α}, ρ.G K6 (fun i => K2.n < i) v q → ρ.G K8 (fun i => K2.n < i) v q := fun g => l7.fld (l6.fld_put g _) k8
        have f1 := mv (l5'.fld gv5 k6)
        have f2 := mv (l5'.fld gw5 k6)
        have f3 := mv i6
        have g6 := l6.get
        have t6 := l6.lt
        simp only [tSemi, sr5, nl] at g6 e8
        simp [ht, u2, u3, u6, u7, e6, g6, t6, e8]
        exact ⟨⟨by simp [ht], by simp [ht, u2], by simp [ht, u3], by simp [ht, u6], by simp [ht, u7]⟩, _, _, _, l8, f1, f2, f3⟩
      · have hi : isP L s2 tClaims = false := hb
        rw [if_neg (by simp [hi])] at hx3
        cases hx3
        rw [takeS_no hi] at l5'
        simp [ht, u2, u3, u6, u7]
        exact ⟨⟨by simp [ht], by simp [ht, u2], by simp [ht, u3], by simp [ht, u6], by simp [ht, u7]⟩, _, _, nl, l5', gv5, gw5, repItm.G_nil _ _⟩
      · rintro t K ⟨⟨ht, u2, u3, u6, u7⟩, v, w, x, lF, gv, gw, gx⟩
        obtain ⟨bv, rfl⟩ := repDcl.G_slice gv
        obtain ⟨bw, rfl⟩ := repPrc.G_slice gw
        obtain ⟨bx, rfl⟩ := repItm.G_slice gx
        obtain ⟨K5, e5, l5', k5⟩ := lF.must hE tBegin
        obtain ⟨o, K6, e6, y, rfl, k6, d6, g6⟩ := (st_all hE (hB L) (hBr _ _ _) n).2.1 _ _ _ _ hx4 (by omega) (by omega) _ l5'.at_.rd
        have l6 := l5'.step k6 d6
        obtain ⟨bb, rfl⟩ := repStm.G_slice g6
        have t5 := l5'.lt
        have g6' : repStm.G K6 (fun i => K2.n < i) (.slice bb bd.length bd.length) bd := repStm.G_move (Same.refl (fun _ => False) _) (fun i hi _ => ⟨by omega, fun h => h⟩) g6
        have l7 := l6.put (sr5 nm (.slice bv ds.length ds.length) (.slice bw ps.length ps.length) (.slice bx cl.length cl.length) (.slice bb bd.length bd.length))
        obtain ⟨K8, e8, l8, k8⟩ := l7.must hE tEnd
        obtain ⟨K9, e9, l9, k9⟩ := l8.must hE (b1 46)
        have mv : ∀ {α : Type} {ρ : Rep α} {v : Value} {q : List α}, ρ.G K6 (fun i => K2.n < i) v q → ρ.G K9 (fun i => K2.n < i) v q := fun g => l8.fld (l7.fld (l6.fld_put g _) k8) k9
        have hS : RSrc K9 (fun i => K2.n < i) ⟨nm, ds, ps, cl, bd⟩ (sr5 nm (.slice bv ds.length ds.length) (.slice bw ps.length ps.length) (.slice bx cl.length cl.length) (.slice bb bd.length bd.length)) :=
          ⟨_, _, _, _, rfl, mv (l5'.fld (lF.fld gv k5) k6), mv (l5'.fld (lF.fld gw k5) k6), mv (l5'.fld (lF.fld gx k5) k6), mv g6'⟩
        obtain ⟨KT, eT, kT⟩ := now_run hE l9.at_.rd
        have lT := l9.step (Same.none kT) (l9.at_.rd.same kT)
        have hST := hS.move (Same.none kT : Same (· = HA.n + 1) K9 KT) (S' := fun i => K2.n < i) (fun i hi _ => ⟨hi, by omega⟩)
        have gl6 := l6.get
        have tl6 := l6.lt
        generalize hs9 : mustS L (mustS L s4 tEnd) (b1 46) = s9 at *
        generalize htk : tok L s9.p = tk at *
        simp only [tBegin, tEnd, b1, sr5, nl, Tk.v, Tk.cells] at e5 e6 gl6 e8 e9 eT
        simp [ht, u2, u3, u6, u7, e5, e6, gl6, tl6, e8, e9, eT]
        refine ends_cut (EndJ H Hp (HA.n + 1) id L K2.n ⟨nm, ds, ps, cl, bd⟩ (endS L s9)) (ends_cond (fun hb => ?_) (fun hb => ?_)) ?_
        · have hk5 : ¬ tk.kind = 5 := by simpa using hb
          have he : endS L s9 = faultS L s9 14 := by unfold endS; rw [htk, if_neg hk5]
          rw [he]
          obtain ⟨KF, eF, lF2, kF⟩ := lT.fault hE 14
          simp [ht, u2, u3, u6, u7, eF]
          exact ⟨⟨by simp [ht], by simp [ht, u2], by simp [ht, u3], by simp [ht, u6], by simp [ht, u7]⟩, _, lF2, hST.move kF (fun i hi _ => ⟨hi, by omega⟩)⟩
        · have hk5 : tk.kind = 5 := by simpa using hb
          have he : endS L s9 = s9 := by unfold endS; rw [htk, if_pos hk5]
          rw [he]
          simp [ht, u2, u3, u6, u7]
          exact ⟨⟨by simp [ht], by simp [ht, u2], by simp [ht, u3], by simp [ht, u6], by simp [ht, u7]⟩, _, lT, hST⟩
        · rintro t K ⟨⟨ht, u2, u3, u6, u7⟩, sc, lF, hS⟩
          have eb := bad_run hE lF.at_.rd
          have hobj := lF.at_.rd.obj
          have gk0 := lF.at_.same.at gp0 (by simp) (by omega)
          have gk1 := lF.at_.same.at gp1 (by simp) (by omega)
          have gl := lF.get
          have tl := lF.lt
          have kK : Same (fun _ => False) H K := kHp.then lF.at_.same (fun i hi => .inr (by omega))
          have nK := lF.at_.n
          have q0 : H.n < K.n := by omega
          have q1 : H.n + 1 < K.n := by omega
          simp only at hx5
          subst hx5
          by_cases hc : (endS L s9).c = 0
          · simp only [hc, if_pos]
            obtain ⟨y, a1, a2, a3, b1', b2, b3, c1, c2, c3, d1', d2', d3, rfl⟩ := hS.slices
            simp only [sr5] at gl hS
            simp [ht, u2, u3, u6, u7, eb, hc, gl, gk0, gk1, q0, q1]
            refine ⟨(kK.then_set q0 (.inr (by omega)) _).then_set (by simp; omega) (.inr (by omega)) _, _, rfl, ?_⟩
            refine RSrc.move (X := fun i => i = H.n ∨ i = H.n + 1) ?_ (S := fun i => K2.n < i) (fun i hi _ => ⟨by omega, by omega⟩) hS
            exact (Same.set (X := fun i => i = H.n ∨ i = H.n + 1) K q0 (.inl rfl) _).trans (Same.set (X := fun i => i = H.n ∨ i = H.n + 1) _ (by simpa using q1) (.inr rfl) _)
          · simp only [hc, if_neg]
            simp [ht, u2, u3, u6, u7, eb, hc]
            refine region_plan (by exact pl_parse2) ?_
            simp [ht, u2, u3, u6, u7, hobj, gk0, gk1, q0, q1, show ¬ HA.n + 1 = H.n by omega, show ¬ HA.n + 1 = H.n + 1 by omega]
            refine ⟨(kK.then_set q0 (.inr (by omega)) _).then_set (by simp; omega) (.inr (by omega)) _, ?_⟩
            simp [sr5]
theorem parse_walk (hB : ∀ L, BLt B L) (hBr : ∀ r lid L, BranOK E B r lid L) {H : Heap} {sid0 off cap : Nat} {src : List UInt8} (hb : BS H sid0 off cap src) (hsm : src.length ≤ 4096) {n : Nat} {res : Src ⊕ (Int × Int)} (hx : parseP B src n = some res) :
    Gives ((run Try.prog E).call 13 [.slice (some ⟨sid0, off, none⟩) src.length cap] H) (RetP H res) :=
  parse_walk0 hE hB hBr rfl (AllOK.bs hE hb hsm) hsm hx
end
end Go.Vm.Parse
