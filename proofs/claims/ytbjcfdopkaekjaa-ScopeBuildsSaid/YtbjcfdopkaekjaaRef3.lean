/- What is proved: the reference's 'Build'. -/
import Derived.Test.YtbjcfdopkaekjaaRef2
namespace Go.Vm.Scope
open Go Go.Proofs Go.Vm.Parse
set_option maxRecDepth 100000
set_option maxHeartbeats 8000000
set_option linter.unusedSimpArgs false
set_option linter.unusedVariables false
attribute [local simp] repCells_succ writeAt rd_Fr toList_beq gpe gpn spe gse gsn ne_r0 ne_l0 le_s0 ne_r1 ne_l1 lt_s1 le_s1 ne_r2 ne_l2 lt_s2 le_s2 ne_r3 ne_l3 lt_s3 le_s3 ne_r4 ne_l4 lt_s4 le_s4 ne_r5 ne_l5 lt_s5 le_s5 ne_r6 ne_l6 lt_s6 le_s6 ne_r7 ne_l7 lt_s7 le_s7
def RDeclI (H : Heap) (sc : List Value) (ds : List Dcl) (res : Except (Int × Int) RT) (m : Nat) (t : List Value) (K : Heap) : Prop :=
  ∃ k T col, k ≤ ds.length ∧ m = ds.length - k ∧ rd t 5 = .int .i64 k ∧ rdeclsB T (ds.drop k) = res ∧ RAt H K sc col T k 0
def RDeclJ (H : Heap) (sc : List Value) (res : Except (Int × Int) RT) (nd : Nat) (t : List Value) (K : Heap) : Prop :=
  ∃ T col, res = .ok T ∧ RAt H K sc col T nd 0 ∧ t.length = 301 ∧ rd t 1 = .pointer (some ⟨H.n, 0, none⟩) ∧ rd t 3 = .pointer (some ⟨H.n + 1, 0, none⟩) ∧ rd t 4 = .pointer (some ⟨H.n + 2, 0, none⟩)
def RProcI (H : Heap) (sc : List Value) (ps : List Prc) (res : Except (Int × Int) RT) (nd : Nat) (m : Nat) (t : List Value) (K : Heap) : Prop :=
  ∃ k T col, k ≤ ps.length ∧ m = ps.length - k ∧ rd t 10 = .int .i64 k ∧ rprocsB T (ps.drop k) = res ∧ RAt H K sc col T nd k
def RProcJ (H : Heap) (sc : List Value) (res : Except (Int × Int) RT) (t : List Value) (K : Heap) : Prop :=
  ∃ T' col' nd np, res = .ok T' ∧ RAt H K sc col' T' nd np ∧ t.length = 301 ∧ rd t 3 = .pointer (some ⟨H.n + 1, 0, none⟩) ∧ rd t 4 = .pointer (some ⟨H.n + 2, 0, none⟩)
/-- Where the count of a class stands. -/
def CntI (K0 : Heap) (kind : Int) (ms : List Nm) (m : Nat) (t : List Value) (K : Heap) : Prop :=
  K = K0 ∧ ∃ k c : Nat, k ≤ ms.length ∧ m = ms.length - k ∧ rd t 8 = .int .i64 k ∧ rd t 7 = .int .i64 c ∧ c + cntP kind (ms.drop k) = cntP kind ms
def CntJ (K0 : Heap) (kind : Int) (ms : List Nm) (t : List Value) (K : Heap) : Prop := K = K0 ∧ rd t 7 = .int .i64 (cntP kind ms)
/-- The slots behind the count. -/
structure RSl (H : Heap) (k dn : Nat) (c : Nat) (t : List Value) : Prop where
  len : t.length = 301
  t1 : rd t 1 = .pointer (some ⟨H.n, 0, none⟩)
  t3 : rd t 3 = .pointer (some ⟨H.n + 1, 0, none⟩)
  t4 : rd t 4 = .pointer (some ⟨H.n + 2, 0, none⟩)
  t5 : rd t 5 = .int .i64 k
  t6 : rd t 6 = .pointer (some ⟨dn, 0, none⟩)
  t7 : rd t 7 = .int .i64 c
theorem RSl.of {H : Heap} {k dn c : Nat} {t t' : List Value} (h : RSl H k dn c t) (hl : t'.length = t.length) (h2 : AllRd t' t [1, 3, 4, 5, 6, 7]) : RSl H k dn c t' := by
  simp at h2
  exact ⟨hl.trans h.len, h2.1.trans h.t1, h2.2.1.trans h.t3, h2.2.2.1.trans h.t4, h2.2.2.2.1.trans h.t5, h2.2.2.2.2.1.trans h.t6, h2.2.2.2.2.2.trans h.t7⟩
/-- Where the reader of a procedure's names stands. -/
def RLocI (H K1 : Heap) (k pn np : Nat) (ids : List Idn) (res : Except (Int × Int) (List ByteArray)) (m : Nat) (t : List Value) (K : Heap) : Prop :=
  Same (fun _ => False) K1 K ∧ ∃ j acc v, j ≤ ids.length ∧ m = ids.length - j ∧ rd t 13 = .int .i64 j ∧ rd t 12 = v ∧ repStr.G K (fun i => K1.n ≤ i) v acc ∧ acc.length = j ∧ rlocB np acc j (ids.drop j) = res
def RLocJ (H K1 : Heap) (res : Except (Int × Int) (List ByteArray)) (t : List Value) (K : Heap) : Prop :=
  Same (fun _ => False) K1 K ∧ ∃ acc v, res = .ok acc ∧ rd t 12 = v ∧ repStr.G K (fun i => K1.n ≤ i) v acc
/-- The slots in a procedure. -/
structure PSl (H : Heap) (k pn : Nat) (t : List Value) : Prop where
  len : t.length = 301
  t1 : rd t 1 = .pointer (some ⟨H.n, 0, none⟩)
  t3 : rd t 3 = .pointer (some ⟨H.n + 1, 0, none⟩)
  t4 : rd t 4 = .pointer (some ⟨H.n + 2, 0, none⟩)
  t10 : rd t 10 = .int .i64 k
  t11 : rd t 11 = .pointer (some ⟨pn, 0, none⟩)
theorem PSl.of {H : Heap} {k dn : Nat} {t t' : List Value} (h : PSl H k dn t) (hl : t'.length = t.length) (h2 : AllRd t' t [1, 3, 4, 10, 11]) : PSl H k dn t' := by
  simp at h2
  exact ⟨hl.trans h.len, h2.1.trans h.t1, h2.2.1.trans h.t3, h2.2.2.1.trans h.t4, h2.2.2.2.1.trans h.t10, h2.2.2.2.2.trans h.t11⟩
section
variable {E : Hooks} (hE : Plain E)
include hE
theorem rbuild_run {H : Heap} {s : Src} {sc : List Value} (hs : RSrc H (fun i => i < H.n) s sc) (hk4 : ∀ d ∈ s.decls, 1 ≤ d.kind ∧ d.kind ≤ 4) (hq : ∀ p ∈ s.procs, p.params.length + p.vars.length ≤ 100000) (hl : s.decls.length ≤ 100000) (hl2 : s.procs.length ≤ 100000) :
    Gives ((run Try.prog E).call 15 [.agg ⟨sc⟩] H) (RetRB H (rbuildB s)) := by
  obtain ⟨w1, w2, w3, w4, rfl, hd, hp, hi, hb⟩ := hs
  obtain ⟨b1, rfl⟩ := repDcl.G_slice hd
  obtain ⟨b2, rfl⟩ := repPrc.G_slice hp
  obtain ⟨b3, rfl⟩ := repItm.G_slice hi
  obtain ⟨b4, rfl⟩ := repStm.G_slice hb
  generalize hsc : sr5 s.name (.slice b1 s.decls.length s.decls.length) (.slice b2 s.procs.length s.procs.length) (.slice b3 s.claims.length s.claims.length) (.slice b4 s.body.length s.body.length) = sc at *
  have hsc' := hsc
  simp only [sr5] at hsc'
  rw [c_rBuild hE, callB, bodyOf]
  subst hsc'
  simp [Try.f15]
  refine loop_mid2 (RDeclJ H (sr5 s.name (.slice b1 s.decls.length s.decls.length) (.slice b2 s.procs.length s.procs.length) (.slice b3 s.claims.length s.claims.length) (.slice b4 s.body.length s.body.length)) (rdeclsB rt0 s.decls) s.decls.length)
    (RDeclI H (sr5 s.name (.slice b1 s.decls.length s.decls.length) (.slice b2 s.procs.length s.procs.length) (.slice b3 s.claims.length s.claims.length) (.slice b4 s.body.length s.body.length)) s.decls (rdeclsB rt0 s.decls)) s.decls.length ?_ ?_ ?_
  · refine ⟨0, rt0, fun i => if i = H.n + 2 then 1 else 0, Nat.zero_le _, by simp, by simp, by simp, ?_⟩
    refine ⟨((Same.push _ _ _).then_push _).then_push _, by simp [sr5, Heap.get_push], by simp [Heap.get_push], ⟨nl, nl, nl, nl, nl, nl, ?_, fun _ => ⟨rfl, rfl, rfl⟩, fun _ => ⟨rfl, rfl, rfl⟩⟩, fun i hi => by rw [if_neg (by omega)], rfl, rfl, rfl, rfl, rfl, rfl⟩
    exact ⟨by simp [Heap.get_push, rt6], by simp, repStr.G_nil _ _, repNm.G_nil _ _, repStr.G_nil _ _, repInt.G_nil _ _, repStrs.G_nil _ _, repInt.G_nil _ _, fun i hi => by simp at hi; rw [if_neg (by omega)]⟩
  · rintro m t K hk ⟨k, T, col, hkl, rfl, g5, hres, hB⟩
    have ht : t.length = 301 := hk.1.trans (by simp [len_Bs])
    have hh := hk.all [1, 3, 4] (by decide +kernel)
    simp at hh
    obtain ⟨u1, u3, u4⟩ := hh
    have g0 := hB.box
    have gr := hB.res
    obtain ⟨x1, x2, x3, x4, x5, x6, hT, _⟩ := hB.tab
    have nK := hB.same.n
    have trK : H.n + 1 < K.n := Heap.lt_of_get gr (by simp)
    have ttK : H.n + 2 < K.n := Heap.lt_of_get hT.obj (by simp)
    simp only [sr5] at g0
    rcases Nat.lt_or_ge k s.decls.length with hlt | hge
    · obtain ⟨id, tl, cs, e1, hid, _, hrow, hcl, hget, hle⟩ := repDcl.G_at hd hlt
      cases e1
      have hrK := hB.same.at hrow (by simp) (fun h => h)
      have hdrop : s.decls.drop k = s.decls[k] :: s.decls.drop (k + 1) := List.drop_eq_getElem_cons hlt
      have hdk4 := hk4 s.decls[k] (List.getElem_mem hlt)
      generalize hdk : s.decls[k] = d at *
      rw [hdrop, rdeclsB] at hres
      simp only [repDcl, dsc] at hget hcl hle
      have hB1 := hB.keep (Same.push (fun _ => False) K (.row true 0 1 (dsc d.kind d.at_ d.name d.n))) (fun _ h => h.elim)
      simp only [dsc] at hB1
      obtain ⟨y1, y2, y3, y4, y5, y6, hT1, hz1, hz2⟩ := hB1.tab
      have gt1 := hT1.obj
      have gr1 := hB1.res
      have gd1 : (K.push (.row true 0 1 (dsc d.kind d.at_ d.name d.n))).get K.n = .row true 0 1 (dsc d.kind d.at_ d.name d.n) := Heap.get_push_self _ _
      have eT := hasText_run hE hT1.g1 (by have := hB.n1; omega) d.name
      have w1 : IntKind.i64.wrap ((k : Int) + 1) = (k : Int) + 1 := wrap64 _ (by omega) (by omega)
      simp only [dsc, rt6] at eT gt1 gr1 gd1
      simp [ht, u1, u3, u4, g5, g0, hlt, hrK, hcl, hle, hget]
      have n1 : (K.push (.row true 0 1 [.int .i64 d.kind, .int .i64 d.at_, .string d.name, .int .i64 d.n])).n = K.n + 1 := rfl
      generalize hK1 : K.push (.row true 0 1 [.int .i64 d.kind, .int .i64 d.at_, .string d.name, .int .i64 d.n]) = K1 at *
      refine region_quiet (by exact q_rb0) ?_
      simp [ht, u1, u3, u4, gt1, gd1, eT]
      by_cases c1 : hasP T.names d.name = true
      · unfold rdclB at hres
        rw [if_pos c1] at hres
        unfold rbuildB
        rw [← hres]
        obtain ⟨K2, eF, kF⟩ := rfault_run hE 17 d.at_ K1
        have gr2 := kF.at gr1 (by simp) (fun h => h)
        have tr2 := Heap.lt_of_get gr2 (by simp)
        simp [ht, u1, u3, u4, c1, gd1, eF, gr2, tr2]
        exact ⟨(hB1.same.trans kF).then_set tr2 (.inr (by omega)) _, rfl⟩
      have c1' : hasP T.names d.name = false := by simpa using c1
      obtain ⟨y2b, ey2⟩ := repNm.G_slice hT1.g2
      subst ey2
      simp [ht, u1, u3, u4, c1']
      have nm := hB1.n2
      refine loop_mid2 (CntJ K1 d.kind T.means) (CntI K1 d.kind T.means) T.means.length ?_ ?_ ?_
      · exact ⟨rfl, 0, 0, Nat.zero_le _, by simp, by simp [ht], by simp [ht], by simp⟩
      · rintro m t1 K2 hk1 ⟨rfl, j, c, hj, rfl, g8, g7, hc⟩
        have ht1 : t1.length = 301 := hk1.1.trans (by simp [ht])
        have hh1 := hk1.all [4, 6] (by decide +kernel)
        simp [ht, u4] at hh1
        obtain ⟨z4, z6⟩ := hh1
        rcases Nat.lt_or_ge j T.means.length with hlt1 | hge1
        · obtain ⟨mid, mtl, mcs, me, _, _, mrow, mcl, mget, mle⟩ := repNm.G_at hT1.g2 hlt1
          cases me
          have mdrop : T.means.drop j = T.means[j] :: T.means.drop (j + 1) := List.drop_eq_getElem_cons hlt1
          rw [mdrop, cntP] at hc
          generalize T.means[j] = mm at *
          simp only [repNm] at mget mcl mle mrow
          have hm0 : mcs[j * 3]? = some (.int .i64 mm.kind) := by
            have := congrArg (fun q => q[0]?) mget
            simpa using this
          have hm1 : mcs[j * 3]'(by omega) = .int .i64 mm.kind := (List.getElem?_eq_some_iff.1 hm0).2
          have w2 : IntKind.i64.wrap ((j : Int) + 1) = (j : Int) + 1 := wrap64 _ (by omega) (by omega)
          have w3 : IntKind.i64.wrap ((c : Int) + 1) = (c : Int) + 1 := wrap64 _ (by omega) (by have := cntP_le d.kind T.means; omega)
          have ec := fun k H => rclass_run hE k H
          simp [ht1, z4, z6, g8, g7, gt1, hlt1]
          refine region_plan (by exact pl_rb1) ?_
          simp [ht1, z4, z6, g8, g7, gt1, hlt1, mrow, mcl, mle, hm0, hm1, gd1, ec]
          by_cases hcl : clsP mm.kind = clsP d.kind
          · rw [if_pos hcl] at hc
            simp [hcl, ht1, z4, z6, g8, g7, w2, w3]
            exact ⟨T.means.length - (j + 1), by omega, rfl, j + 1, c + 1, by omega, rfl, by simp [ht1], by simp [ht1], by omega⟩
          · rw [if_neg hcl] at hc
            simp [hcl, ht1, z4, z6, g8, g7, w2]
            exact ⟨T.means.length - (j + 1), by omega, rfl, j + 1, c, by omega, rfl, by simp [ht1], by simp [ht1, g7], by omega⟩
        · have : j = T.means.length := by omega
          subst this
          simp [ht1, z4, z6, g8, g7, gt1]
          rw [List.drop_length, cntP] at hc
          exact ⟨rfl, by simp [ht1, g7]; omega⟩
      · rintro t1 K2 hk1 ⟨rfl, g7⟩
        have ht1 : t1.length = 301 := hk1.1.trans (by simp [ht])
        have hh1 := hk1.all [1, 3, 4, 5, 6] (by decide +kernel)
        simp [ht, u1, u3, u4, g5] at hh1
        obtain ⟨z1, z3, z4, z5, z6⟩ := hh1
        have sl : RSl H k K.n (cntP d.kind T.means) t1 := ⟨ht1, z1, z3, z4, z5, z6, g7⟩
        have ec := fun k H => rclass_run hE k H
        have cle := cntP_le d.kind T.means
        have tK2 : K.n < K2.n := by omega
        have r16 : manyP T d → rdeclsB rt0 s.decls = .error (16, d.at_) := fun h => by rw [← hres]; unfold rdclB; rw [if_neg c1, if_pos h]
        have r24 : ¬ manyP T d → unitsB d → rdeclsB rt0 s.decls = .error (24, d.at_) := fun h h' => by rw [← hres]; unfold rdclB; rw [if_neg c1, if_neg h, if_pos h']
        have rok : ¬ manyP T d → ¬ unitsB d → rdeclsB (rdclT T d) (s.decls.drop (k + 1)) = rdeclsB rt0 s.decls := fun h h' => by rw [← hres]; unfold rdclB; rw [if_neg c1, if_neg h, if_neg h']
        rw [code_seq, ends_then]
        refine ends_cut2 (fun t K' => K' = K2 ∧ RSl H k K.n (cntP d.kind T.means) t ∧ ¬ manyP T d) ?_ ?_
        · have go : ∀ (L : Nat), (d.kind = 1 → L = 6) → (d.kind = 2 → L = 8) → (clsP d.kind = 3 → L = 16) → (L ≤ cntP d.kind T.means → manyP T d) ∧ (¬ L ≤ cntP d.kind T.means → ¬ manyP T d) := fun L h1 h2 h3 => by
            unfold manyP
            have : d.kind = 1 ∨ d.kind = 2 ∨ clsP d.kind = 3 := by unfold clsP; split <;> omega
            have x1 : d.kind = 1 → clsP d.kind = 1 := fun h => by rw [h]; rfl
            have x2 : d.kind = 2 → clsP d.kind = 2 := fun h => by rw [h]; rfl
            refine ⟨fun h => ?_, fun h => ?_⟩
            · rcases this with e | e | e
              · exact .inl ⟨e, by have := h1 e; omega⟩
              · exact .inr (.inl ⟨e, by have := h2 e; omega⟩)
              · exact .inr (.inr ⟨e, by have := h3 e; omega⟩)
            · rintro (⟨e, q⟩ | ⟨e, q⟩ | ⟨e, q⟩)
              · have := h1 e; omega
              · have := h2 e; omega
              · have := h3 e; omega
          obtain ⟨K3, eF, kF⟩ := rfault_run hE 16 d.at_ K2
          have gr3 := kF.at gr1 (by simp) (fun h => h)
          have tr3 := Heap.lt_of_get gr3 (by simp)
          have kE : Same (fun _ => False) H (K3.set (H.n + 1) (.row true 0 1 [.int .i64 16, .int .i64 d.at_])) := (hB1.same.trans kF).then_set tr3 (.inr (by omega)) _
          have fin : ∀ t : List Value, RSl H k K.n (cntP d.kind T.means) t → ¬ manyP T d → K2 = K2 ∧ RSl H k K.n (cntP d.kind T.means) t ∧ ¬ manyP T d := fun t h1 h2 => ⟨rfl, h1, h2⟩
          rcases (show d.kind = 1 ∨ d.kind = 2 ∨ d.kind = 3 ∨ d.kind = 4 by omega) with hk | hk | hk | hk
          · have gg := go 6 (fun _ => rfl) (fun h => by omega) (fun h => by rw [hk] at h; exact absurd h (by decide))
            by_cases hm : 6 ≤ cntP d.kind T.means
            · have hm' : (6 : Int) ≤ cntP d.kind T.means := by omega
              unfold rbuildB
              rw [r16 (gg.1 hm)]
              simp only [hk] at gd1 g7 sl hm'
              simp [sl.len, sl.t1, sl.t3, sl.t4, sl.t5, sl.t6, sl.t7, gd1, hm', eF, gr3, tr3, ec, clsP]
              exact ⟨kE, rfl⟩
            · have hm' : ¬ (6 : Int) ≤ cntP d.kind T.means := by omega
              have nm := gg.2 hm
              simp only [hk] at gd1 g7 hm'
              have sl' := sl
              simp only [hk] at sl'
              simp [sl'.len, sl'.t1, sl'.t3, sl'.t4, sl'.t5, sl'.t6, sl'.t7, gd1, hm', ec, clsP]
              exact ⟨sl.of (by simp) (by simp [sl.len]), nm⟩
          · have gg := go 8 (fun h => by omega) (fun _ => rfl) (fun h => by rw [hk] at h; exact absurd h (by decide))
            by_cases hm : 8 ≤ cntP d.kind T.means
            · have hm' : (8 : Int) ≤ cntP d.kind T.means := by omega
              unfold rbuildB
              rw [r16 (gg.1 hm)]
              simp only [hk] at gd1 g7 sl hm'
              simp [sl.len, sl.t1, sl.t3, sl.t4, sl.t5, sl.t6, sl.t7, gd1, hm', eF, gr3, tr3, ec, clsP]
              exact ⟨kE, rfl⟩
            · have hm' : ¬ (8 : Int) ≤ cntP d.kind T.means := by omega
              have nm := gg.2 hm
              simp only [hk] at gd1 g7 hm'
              have sl' := sl
              simp only [hk] at sl'
              simp [sl'.len, sl'.t1, sl'.t3, sl'.t4, sl'.t5, sl'.t6, sl'.t7, gd1, hm', ec, clsP]
              exact ⟨sl.of (by simp) (by simp [sl.len]), nm⟩
          · have gg := go 16 (fun h => by omega) (fun h => by omega) (fun _ => rfl)
            by_cases hm : 16 ≤ cntP d.kind T.means
            · have hm' : (16 : Int) ≤ cntP d.kind T.means := by omega
              unfold rbuildB
              rw [r16 (gg.1 hm)]
              simp only [hk] at gd1 g7 sl hm'
              simp [sl.len, sl.t1, sl.t3, sl.t4, sl.t5, sl.t6, sl.t7, gd1, hm', eF, gr3, tr3, ec, clsP]
              exact ⟨kE, rfl⟩
            · have hm' : ¬ (16 : Int) ≤ cntP d.kind T.means := by omega
              have nm := gg.2 hm
              simp only [hk] at gd1 g7 hm'
              have sl' := sl
              simp only [hk] at sl'
              simp [sl'.len, sl'.t1, sl'.t3, sl'.t4, sl'.t5, sl'.t6, sl'.t7, gd1, hm', ec, clsP]
              exact ⟨sl.of (by simp) (by simp [sl.len]), nm⟩
          · have gg := go 16 (fun h => by omega) (fun h => by omega) (fun _ => rfl)
            by_cases hm : 16 ≤ cntP d.kind T.means
            · have hm' : (16 : Int) ≤ cntP d.kind T.means := by omega
              unfold rbuildB
              rw [r16 (gg.1 hm)]
              simp only [hk] at gd1 g7 sl hm'
              simp [sl.len, sl.t1, sl.t3, sl.t4, sl.t5, sl.t6, sl.t7, gd1, hm', eF, gr3, tr3, ec, clsP]
              exact ⟨kE, rfl⟩
            · have hm' : ¬ (16 : Int) ≤ cntP d.kind T.means := by omega
              have nm := gg.2 hm
              simp only [hk] at gd1 g7 hm'
              have sl' := sl
              simp only [hk] at sl'
              simp [sl'.len, sl'.t1, sl'.t3, sl'.t4, sl'.t5, sl'.t6, sl'.t7, gd1, hm', ec, clsP]
              exact ⟨sl.of (by simp) (by simp [sl.len]), nm⟩
        rintro t2 K2 ⟨rfl, sl2, nmany⟩
        rw [code_seq, ends_then]
        refine ends_cut2 (fun t K' => K' = K2 ∧ RSl H k K.n (cntP d.kind T.means) t ∧ ¬ unitsB d) ?_ ?_
        · obtain ⟨K3, eF, kF⟩ := rfault_run hE 24 d.at_ K2
          have gr3 := kF.at gr1 (by simp) (fun h => h)
          have tr3 := Heap.lt_of_get gr3 (by simp)
          have kE : Same (fun _ => False) H (K3.set (H.n + 1) (.row true 0 1 [.int .i64 24, .int .i64 d.at_])) := (hB1.same.trans kF).then_set tr3 (.inr (by omega)) _
          rcases (show d.kind = 1 ∨ d.kind = 2 ∨ d.kind = 3 ∨ d.kind = 4 by omega) with hk | hk | hk | hk
          · by_cases q1 : d.n < 1
            · unfold rbuildB
              rw [r24 nmany (.inl ⟨hk, .inl q1⟩)]
              simp only [hk] at gd1 sl2
              simp [sl2.len, sl2.t1, sl2.t3, sl2.t4, sl2.t5, sl2.t6, sl2.t7, gd1, q1, eF, gr3, tr3]
              exact ⟨kE, rfl⟩
            by_cases q2 : 1000 < d.n
            · unfold rbuildB
              rw [r24 nmany (.inl ⟨hk, .inr q2⟩)]
              simp only [hk] at gd1 sl2
              simp [sl2.len, sl2.t1, sl2.t3, sl2.t4, sl2.t5, sl2.t6, sl2.t7, gd1, q1, q2, eF, gr3, tr3]
              exact ⟨kE, rfl⟩
            · have nu : ¬ unitsB d := fun h => by unfold unitsB at h; omega
              have sl' := sl2
              simp only [hk] at gd1 sl'
              simp [sl'.len, sl'.t1, sl'.t3, sl'.t4, sl'.t5, sl'.t6, sl'.t7, gd1, q1, q2]
              exact ⟨sl2.of (by simp) (by simp [sl2.len]), nu⟩
          · by_cases q1 : d.n < 0
            · unfold rbuildB
              rw [r24 nmany (.inr ⟨hk, .inl q1⟩)]
              simp only [hk] at gd1 sl2
              simp [sl2.len, sl2.t1, sl2.t3, sl2.t4, sl2.t5, sl2.t6, sl2.t7, gd1, q1, eF, gr3, tr3]
              exact ⟨kE, rfl⟩
            by_cases q2 : 1000 < d.n
            · unfold rbuildB
              rw [r24 nmany (.inr ⟨hk, .inr q2⟩)]
              simp only [hk] at gd1 sl2
              simp [sl2.len, sl2.t1, sl2.t3, sl2.t4, sl2.t5, sl2.t6, sl2.t7, gd1, q1, q2, eF, gr3, tr3]
              exact ⟨kE, rfl⟩
            · have nu : ¬ unitsB d := fun h => by unfold unitsB at h; omega
              have sl' := sl2
              simp only [hk] at gd1 sl'
              simp [sl'.len, sl'.t1, sl'.t3, sl'.t4, sl'.t5, sl'.t6, sl'.t7, gd1, q1, q2]
              exact ⟨sl2.of (by simp) (by simp [sl2.len]), nu⟩
          · have nu : ¬ unitsB d := fun h => by unfold unitsB at h; omega
            have sl' := sl2
            simp only [hk] at gd1 sl'
            simp [sl'.len, sl'.t1, sl'.t3, sl'.t4, sl'.t5, sl'.t6, sl'.t7, gd1]
            exact ⟨sl2.of (by simp) (by simp [sl2.len]), nu⟩
          · have nu : ¬ unitsB d := fun h => by unfold unitsB at h; omega
            have sl' := sl2
            simp only [hk] at gd1 sl'
            simp [sl'.len, sl'.t1, sl'.t3, sl'.t4, sl'.t5, sl'.t6, sl'.t7, gd1]
            exact ⟨sl2.of (by simp) (by simp [sl2.len]), nu⟩
        rintro t3 K2 ⟨rfl, sl3, nun⟩
        rw [code_seq, ends_then]
        refine ends_cut2 (fun t K' => K' = K2.push (.row true 0 1 [.int .i64 d.kind, .int .i64 (cntP d.kind T.means), .int .i64 0]) ∧ RSl H k K.n (cntP d.kind T.means) t ∧ rd t 9 = .pointer (some ⟨K2.n, 0, none⟩)) ?_ ?_
        · simp [sl3.len, sl3.t1, sl3.t3, sl3.t4, sl3.t5, sl3.t6, sl3.t7, gd1]
          exact sl3.of (by simp) (by simp [sl3.len])
        rintro t4 _ ⟨rfl, sl4, s9⟩
        rw [code_seq, ends_then]
        refine ends_cut2 (fun t K' => K' = K2.push (.row true 0 1 [.int .i64 d.kind, .int .i64 (cntP d.kind T.means), .int .i64 (if clsP d.kind = 3 then d.n else 0)]) ∧ RSl H k K.n (cntP d.kind T.means) t ∧ rd t 9 = .pointer (some ⟨K2.n, 0, none⟩)) ?_ ?_
        · have gd2 : ∀ o : AObj, (K2.push o).get K.n = K2.get K.n := fun o => by rw [Heap.get_push, if_neg (by omega)]
          by_cases hc3 : clsP d.kind = 3
          · simp [sl4.len, sl4.t1, sl4.t3, sl4.t4, sl4.t5, sl4.t6, sl4.t7, s9, gd1, gd2, ec, hc3]
            exact sl4.of (by simp) (by simp [sl4.len])
          · simp [sl4.len, sl4.t1, sl4.t3, sl4.t4, sl4.t5, sl4.t6, sl4.t7, s9, gd1, gd2, ec, hc3]
            exact sl4.of (by simp) (by simp [sl4.len])
        rintro t5 _ ⟨rfl, sl5, s9⟩
        have gt0 := hT.tc
        have cz : ∀ i, K.n ≤ i → col i = 0 := hT.top
        have hX : ∀ i, col i ≠ 0 → i < K.n := fun i hi => by
          rcases Nat.lt_or_ge i K.n with h | h
          · exact h
          · exact absurd (cz i h) hi
        have kM : Same (fun _ => False) K2 (K2.push (.row true 0 1 [.int .i64 d.kind, .int .i64 (cntP d.kind T.means), .int .i64 (if clsP d.kind = 3 then d.n else 0)])) := Same.push _ _ _
        have hB3 := hB1.keep kM (fun _ h => h.elim)
        have hT3 := hT1.keep kM (fun _ h => h.elim)
        have gm3 : (K2.push (.row true 0 1 [.int .i64 d.kind, .int .i64 (cntP d.kind T.means), .int .i64 (if clsP d.kind = 3 then d.n else 0)])).get K2.n = _ := Heap.get_push_self _ _
        have gd3 := kM.at gd1 (by simp) (fun h => h)
        have n3 : (K2.push (.row true 0 1 [.int .i64 d.kind, .int .i64 (cntP d.kind T.means), .int .i64 (if clsP d.kind = 3 then d.n else 0)])).n = K2.n + 1 := rfl
        generalize hK3 : K2.push (.row true 0 1 [.int .i64 d.kind, .int .i64 (cntP d.kind T.means), .int .i64 (if clsP d.kind = 3 then d.n else 0)]) = K3 at *
        have gt3 := hT3.obj
        simp only [rt6] at gt3
        have kR : Same (fun _ => False) K3 (Heap.room 6 K3) := room6 K3
        have nR : (Heap.room 6 K3).n = K3.n + 6 := rfl
        obtain ⟨H2, H4, H6, e2, e4, e6, q2, q4, q6, m2, m4, m6, G1, G2, G6⟩ := app3 repStr repNm repInt tf_str tf_nms tf_int kR nR (S1 := fun i => col i = 2) (S2 := fun i => col i = 3) (S3 := fun i => col i = 7)
          (fun i h => by have := hX i (by omega); omega) (fun i h => by have := hX i (by omega); omega) (fun i h => by have := hX i (by omega); omega) (fun i h => by omega) (fun i h => by omega) (fun i h => by omega)
          hT3.g1 hT3.g2 hT3.g6 (a1 := d.name) (a2 := ⟨d.kind, cntP d.kind T.means, if clsP d.kind = 3 then d.n else 0⟩) (a3 := d.n) rfl rfl rfl (by have := hB.n1; omega) (by have := hB.n2; omega) (by have := hB.n6; omega)
        simp only [repStr, repNm, repInt] at e2 e4 e6
        refine region_free (by exact no_rb2) (by exact la_rb2) (by exact pr_rb2) (by exact ok_rb2) (by exact ne_rb2) ?_
        generalize hR : Heap.room 6 K3 = R at *
        have gtR : R.get (H.n + 2) = _ := kR.at gt3 (by simp) (fun h => h)
        have gdR : R.get K.n = _ := kR.at gd3 (by simp) (fun h => h)
        have gt2 : H2.get (H.n + 2) = _ := q2.at gt3 (by simp) (by omega)
        have gm2 : H2.get K2.n = _ := q2.at gm3 (by simp) (by have := cz K2.n (by omega); omega)
        have gt4 : H4.get (H.n + 2) = _ := q4.at gt3 (by simp) (by omega)
        have gd4 : H4.get K.n = _ := q4.at gd3 (by simp) (by have := cz K.n (by omega); omega)
        have gt6 : H6.get (H.n + 2) = _ := q6.at gt3 (by simp) (by omega)
        have bs : ∀ (A : Heap) (r : Nat) (x : ByteArray), r < A.n → exBuildSliceAt Try.prog 111 1 [(0, .string x)] r A = some (.slice (some ⟨r, 0, none⟩) 1 1, A.set r (.row true 0 1 [.string x])) := fun A r x h => by
          simp [exBuildSliceAt, Heap.pushAt_lt h]; rfl
        have bi : ∀ (A : Heap) (r : Nat) (x : Int), r < A.n → exBuildSliceAt Try.prog 61 1 [(0, .int .i64 x)] r A = some (.slice (some ⟨r, 0, none⟩) 1 1, A.set r (.row true 0 1 [.int .i64 x])) := fun A r x h => by
          simp [exBuildSliceAt, Heap.pushAt_lt h]; rfl
        have bm : ∀ (A : Heap) (r : Nat) (x y z : Int), r < A.n → exBuildSliceAt Try.prog 112 1 [(0, .agg ⟨[.int .i64 x, .int .i64 y, .int .i64 z]⟩)] r A = some (.slice (some ⟨r, 0, none⟩) 1 1, A.set r (.row true 0 3 [.int .i64 x, .int .i64 y, .int .i64 z])) := fun A r x y z h => by
          simp [exBuildSliceAt, Heap.pushAt_lt h]; rfl
        have b1' := bs R K3.n d.name (by omega)
        have b2' := bm H2 (K3.n + 2) d.kind (cntP d.kind T.means) (if clsP d.kind = 3 then d.n else 0) (by omega)
        have b3' := bi H4 (K3.n + 4) d.n (by omega)
        have t6' : H.n + 2 < H6.n := by omega
        have kF : Same (fun i => col i = 2 ∨ col i = 3 ∨ col i = 7 ∨ i = H.n + 2) K3 (H6.set (H.n + 2) (.row true 0 1 (rt6 (.slice (some ⟨K3.n + 1, 0, none⟩) (T.names.length + 1) (T.names.length + 1)) (.slice (some ⟨K3.n + 3, 0, none⟩) (T.means.length + 1) (T.means.length + 1)) y3 y4 y5 (.slice (some ⟨K3.n + 5, 0, none⟩) (T.values.length + 1) (T.values.length + 1))))) :=
          (q6.mono fun i h => by rcases h with h | h | h; exact .inl h; exact .inr (.inl h); exact .inr (.inr (.inl h))).trans (Same.set H6 t6' (.inr (.inr (.inr rfl))) _)
        have kS : Same (fun i => i = H.n + 2) H6 (H6.set (H.n + 2) (.row true 0 1 (rt6 (.slice (some ⟨K3.n + 1, 0, none⟩) (T.names.length + 1) (T.names.length + 1)) (.slice (some ⟨K3.n + 3, 0, none⟩) (T.means.length + 1) (T.means.length + 1)) y3 y4 y5 (.slice (some ⟨K3.n + 5, 0, none⟩) (T.values.length + 1) (T.values.length + 1))))) := Same.set (X := fun i => i = H.n + 2) H6 t6' rfl _
        have zz := hB.zero
        have colv : ∀ i, i < K3.n → (if i = K3.n + 1 then 2 else if i = K3.n + 3 then 3 else if i = K3.n + 5 then 7 else col i) = col i := fun i hi => by rw [if_neg (by omega), if_neg (by omega), if_neg (by omega)]
        have next : RAt H (H6.set (H.n + 2) (.row true 0 1 (rt6 (.slice (some ⟨K3.n + 1, 0, none⟩) (T.names.length + 1) (T.names.length + 1)) (.slice (some ⟨K3.n + 3, 0, none⟩) (T.means.length + 1) (T.means.length + 1)) y3 y4 y5 (.slice (some ⟨K3.n + 5, 0, none⟩) (T.values.length + 1) (T.values.length + 1)))))
            (sr5 s.name (.slice (some ⟨id, 0, none⟩) s.decls.length s.decls.length) (.slice b2 s.procs.length s.procs.length) (.slice b3 s.claims.length s.claims.length) (.slice b4 s.body.length s.body.length)) (fun i => if i = K3.n + 1 then 2 else if i = K3.n + 3 then 3 else if i = K3.n + 5 then 7 else col i) (rdclT T d) (k + 1) 0 := by
          refine ⟨hB3.same.then kF (fun i hi => .inr ?_), kF.at hB3.box (by simp) ?_, kF.at hB3.res (by simp) ?_, ⟨_, _, _, _, _, _, ⟨Heap.get_set_self _ _ t6', by rw [colv _ (by omega)]; exact gt0, ?_, ?_, ?_, ?_, ?_, ?_, ?_⟩, fun h => by omega, hz2⟩, fun i hi => by rw [colv i (by omega)]; exact zz i hi, by simp [rdclT]; exact hB.n1, by simp [rdclT]; exact hB.n2, by simp [rdclT]; exact hB.n6, hB.n3, hB.n4, hB.n5⟩
          · have := zz i
            omega
          · have := zz H.n (by omega)
            omega
          · have := zz (H.n + 1) (by omega)
            omega
          · have := repStr.G_move kS (S' := fun i => (if i = K3.n + 1 then 2 else if i = K3.n + 3 then 3 else if i = K3.n + 5 then 7 else col i) = 2) (fun i hi hlt => by
              rcases hi with h | h
              · have hk := hX i (by omega)
                exact ⟨by rw [colv i (by omega)]; exact h, fun e => by rw [e] at h; omega⟩
              · exact ⟨by rw [if_pos h], by omega⟩) G1
            simpa [rdclT] using this
          · have := repNm.G_move kS (S' := fun i => (if i = K3.n + 1 then 2 else if i = K3.n + 3 then 3 else if i = K3.n + 5 then 7 else col i) = 3) (fun i hi hlt => by
              rcases hi with h | h
              · have hk := hX i (by omega)
                exact ⟨by rw [colv i (by omega)]; exact h, fun e => by rw [e] at h; omega⟩
              · exact ⟨by rw [if_neg (by omega), if_pos h], by omega⟩) G2
            simpa [rdclT] using this
          · exact repStr.G_move kF (fun i hi hlt => ⟨by have hk := hX i (by omega); rw [colv i (by omega)]; exact hi, fun e => by
              rcases e with e | e | e | e
              · omega
              · omega
              · omega
              · rw [e] at hi; omega⟩) hT3.g3
          · exact repInt.G_move kF (fun i hi hlt => ⟨by have hk := hX i (by omega); rw [colv i (by omega)]; exact hi, fun e => by
              rcases e with e | e | e | e
              · omega
              · omega
              · omega
              · rw [e] at hi; omega⟩) hT3.g4
          · exact repStrs.G_move kF (fun i hi hlt => ⟨by have hk := hX i (by omega); rw [colv i (by omega)]; exact hi, fun e => by
              rcases e with e | e | e | e
              · omega
              · omega
              · omega
              · rw [e] at hi; omega⟩) hT3.g5
          · have := repInt.G_move kS (S' := fun i => (if i = K3.n + 1 then 2 else if i = K3.n + 3 then 3 else if i = K3.n + 5 then 7 else col i) = 7) (fun i hi hlt => by
              rcases hi with h | h
              · have hk := hX i (by omega)
                exact ⟨by rw [colv i (by omega)]; exact h, fun e => by rw [e] at h; omega⟩
              · exact ⟨by rw [if_neg (by omega), if_neg (by omega), if_pos h], by omega⟩) G6
            simpa [rdclT] using this
          · intro i hi
            have hi' : K3.n + 6 ≤ i := by rw [← m6]; exact hi
            rw [if_neg (by omega), if_neg (by omega), if_neg (by omega)]
            exact cz i (by omega)
        rcases Nat.eq_zero_or_pos k with hk0 | hk0
        · obtain ⟨f1, f2, f6⟩ := hz1 hk0
          subst f1
          simp only [nl, Value.slice.injEq] at f2
          obtain ⟨rfl, _, _⟩ := f2
          subst f6
          simp only [nl] at e2 e6
          simp [sl5.len, sl5.t1, sl5.t3, sl5.t4, sl5.t5, sl5.t6, sl5.t7, s9, gtR, gdR, b1', e2, gt2, gm2, b2', e4, gt4, gd4, b3', e6, gt6, t6']
          have ne : ∀ {a b : Nat}, a < b → (a = b) = False ∧ (b = a) = False := fun h => ⟨eq_false (by omega), eq_false (by omega)⟩
          have ap0 := ne (show H.n + 2 < K.n by omega)
          have ap1 := ne (show H.n + 2 < K2.n by omega)
          have ap2 := ne (show H.n + 2 < K3.n by omega)
          have ap3 := ne (show H.n + 2 < K3.n + 1 by omega)
          have ap4 := ne (show H.n + 2 < K3.n + 2 by omega)
          have ap5 := ne (show H.n + 2 < K3.n + 2 + 1 by omega)
          have ap6 := ne (show H.n + 2 < K3.n + 3 by omega)
          have ap7 := ne (show H.n + 2 < K3.n + 4 by omega)
          have ap8 := ne (show H.n + 2 < K3.n + 4 + 1 by omega)
          have ap9 := ne (show H.n + 2 < K3.n + 5 by omega)
          have ap10 := ne (show K.n < K2.n by omega)
          have ap11 := ne (show K.n < K3.n by omega)
          have ap12 := ne (show K.n < K3.n + 1 by omega)
          have ap13 := ne (show K.n < K3.n + 2 by omega)
          have ap14 := ne (show K.n < K3.n + 2 + 1 by omega)
          have ap15 := ne (show K.n < K3.n + 3 by omega)
          have ap16 := ne (show K.n < K3.n + 4 by omega)
          have ap17 := ne (show K.n < K3.n + 4 + 1 by omega)
          have ap18 := ne (show K.n < K3.n + 5 by omega)
          have ap19 := ne (show K2.n < K3.n by omega)
          have ap20 := ne (show K2.n < K3.n + 1 by omega)
          have ap21 := ne (show K2.n < K3.n + 2 by omega)
          have ap22 := ne (show K2.n < K3.n + 2 + 1 by omega)
          have ap23 := ne (show K2.n < K3.n + 3 by omega)
          have ap24 := ne (show K2.n < K3.n + 4 by omega)
          have ap25 := ne (show K2.n < K3.n + 4 + 1 by omega)
          have ap26 := ne (show K2.n < K3.n + 5 by omega)
          have s1 := ne (show H.n < K3.n by omega)
          have s2 := ne (show H.n + 1 < K3.n by omega)
          have s3 := ne (show H.n < K3.n + 1 by omega)
          simp (config := { decide := true }) [pre_rb2, List.elem_eq_mem, s1, s2, s3, sl5.len, sl5.t5, w1, ap0, ap1, ap2, ap3, ap4, ap5, ap6, ap7, ap8, ap9, ap10, ap11, ap12, ap13, ap14, ap15, ap16, ap17, ap18, ap19, ap20, ap21, ap22, ap23, ap24, ap25, ap26]
          exact ⟨s.decls.length - (k + 1), by omega, k + 1, _, _, by omega, rfl, by simp [sl5.len], rok nmany nun, next⟩
        · obtain ⟨p1, f1, cp1, hp1⟩ := repStr.G_some hT3.g1 (by have := hB.n1; omega)
          obtain ⟨p2, f2, cp2, hp2⟩ := repNm.G_some hT3.g2 (by have := hB.n2; omega)
          obtain ⟨p6, f6, cp6, hp6⟩ := repInt.G_some hT3.g6 (by have := hB.n6; omega)
          subst f1
          cases f2
          subst f6
          simp [sl5.len, sl5.t1, sl5.t3, sl5.t4, sl5.t5, sl5.t6, sl5.t7, s9, gtR, gdR, b1', e2, gt2, gm2, b2', e4, gt4, gd4, b3', e6, gt6, t6']
          have h1' := hX p1 (by omega)
          have h2' := hX p2 (by omega)
          have h6' := hX p6 (by omega)
          have ne : ∀ {a b : Nat}, a < b → (a = b) = False ∧ (b = a) = False := fun h => ⟨eq_false (by omega), eq_false (by omega)⟩
          have nq : ∀ {a b : Nat}, a ≠ b → (a = b) = False ∧ (b = a) = False := fun h => ⟨eq_false h, eq_false fun e => h e.symm⟩
          have o1 := nq (show p1 ≠ H.n + 2 from fun e => by rw [e] at cp1; omega)
          have o2 := nq (show p2 ≠ H.n + 2 from fun e => by rw [e] at cp2; omega)
          have o3 := nq (show p6 ≠ H.n + 2 from fun e => by rw [e] at cp6; omega)
          have o4 := nq (show p1 ≠ p2 from fun e => by rw [e] at cp1; omega)
          have o5 := nq (show p1 ≠ p6 from fun e => by rw [e] at cp1; omega)
          have o6 := nq (show p2 ≠ p6 from fun e => by rw [e] at cp2; omega)
          have ap0 := ne (show H.n + 2 < K.n by omega)
          have ap1 := ne (show H.n + 2 < K2.n by omega)
          have ap2 := ne (show H.n + 2 < K3.n by omega)
          have ap3 := ne (show H.n + 2 < K3.n + 1 by omega)
          have ap4 := ne (show H.n + 2 < K3.n + 2 by omega)
          have ap5 := ne (show H.n + 2 < K3.n + 2 + 1 by omega)
          have ap6 := ne (show H.n + 2 < K3.n + 3 by omega)
          have ap7 := ne (show H.n + 2 < K3.n + 4 by omega)
          have ap8 := ne (show H.n + 2 < K3.n + 4 + 1 by omega)
          have ap9 := ne (show H.n + 2 < K3.n + 5 by omega)
          have ap10 := ne (show K.n < K2.n by omega)
          have ap11 := ne (show K.n < K3.n by omega)
          have ap12 := ne (show K.n < K3.n + 1 by omega)
          have ap13 := ne (show K.n < K3.n + 2 by omega)
          have ap14 := ne (show K.n < K3.n + 2 + 1 by omega)
          have ap15 := ne (show K.n < K3.n + 3 by omega)
          have ap16 := ne (show K.n < K3.n + 4 by omega)
          have ap17 := ne (show K.n < K3.n + 4 + 1 by omega)
          have ap18 := ne (show K.n < K3.n + 5 by omega)
          have ap19 := ne (show K2.n < K3.n by omega)
          have ap20 := ne (show K2.n < K3.n + 1 by omega)
          have ap21 := ne (show K2.n < K3.n + 2 by omega)
          have ap22 := ne (show K2.n < K3.n + 2 + 1 by omega)
          have ap23 := ne (show K2.n < K3.n + 3 by omega)
          have ap24 := ne (show K2.n < K3.n + 4 by omega)
          have ap25 := ne (show K2.n < K3.n + 4 + 1 by omega)
          have ap26 := ne (show K2.n < K3.n + 5 by omega)
          have ap27 := ne (show p1 < K.n by omega)
          have ap28 := ne (show p1 < K2.n by omega)
          have ap29 := ne (show p1 < K3.n by omega)
          have ap30 := ne (show p1 < K3.n + 1 by omega)
          have ap31 := ne (show p1 < K3.n + 2 by omega)
          have ap32 := ne (show p1 < K3.n + 2 + 1 by omega)
          have ap33 := ne (show p1 < K3.n + 3 by omega)
          have ap34 := ne (show p1 < K3.n + 4 by omega)
          have ap35 := ne (show p1 < K3.n + 4 + 1 by omega)
          have ap36 := ne (show p1 < K3.n + 5 by omega)
          have ap37 := ne (show p2 < K.n by omega)
          have ap38 := ne (show p2 < K2.n by omega)
          have ap39 := ne (show p2 < K3.n by omega)
          have ap40 := ne (show p2 < K3.n + 1 by omega)
          have ap41 := ne (show p2 < K3.n + 2 by omega)
          have ap42 := ne (show p2 < K3.n + 2 + 1 by omega)
          have ap43 := ne (show p2 < K3.n + 3 by omega)
          have ap44 := ne (show p2 < K3.n + 4 by omega)
          have ap45 := ne (show p2 < K3.n + 4 + 1 by omega)
          have ap46 := ne (show p2 < K3.n + 5 by omega)
          have ap47 := ne (show p6 < K.n by omega)
          have ap48 := ne (show p6 < K2.n by omega)
          have ap49 := ne (show p6 < K3.n by omega)
          have ap50 := ne (show p6 < K3.n + 1 by omega)
          have ap51 := ne (show p6 < K3.n + 2 by omega)
          have ap52 := ne (show p6 < K3.n + 2 + 1 by omega)
          have ap53 := ne (show p6 < K3.n + 3 by omega)
          have ap54 := ne (show p6 < K3.n + 4 by omega)
          have ap55 := ne (show p6 < K3.n + 4 + 1 by omega)
          have ap56 := ne (show p6 < K3.n + 5 by omega)
          have s1 := ne (show H.n < K3.n by omega)
          have s2 := ne (show H.n + 1 < K3.n by omega)
          have s3 := ne (show H.n < K3.n + 1 by omega)
          simp (config := { decide := true }) [pre_rb2, List.elem_eq_mem, s1, s2, s3, sl5.len, sl5.t5, w1, o1, o2, o3, o4, o5, o6, ap0, ap1, ap2, ap3, ap4, ap5, ap6, ap7, ap8, ap9, ap10, ap11, ap12, ap13, ap14, ap15, ap16, ap17, ap18, ap19, ap20, ap21, ap22, ap23, ap24, ap25, ap26, ap27, ap28, ap29, ap30, ap31, ap32, ap33, ap34, ap35, ap36, ap37, ap38, ap39, ap40, ap41, ap42, ap43, ap44, ap45, ap46, ap47, ap48, ap49, ap50, ap51, ap52, ap53, ap54, ap55, ap56]
          exact ⟨s.decls.length - (k + 1), by omega, k + 1, _, _, by omega, rfl, by simp [sl5.len], rok nmany nun, next⟩
    · have : k = s.decls.length := by omega
      subst this
      rw [List.drop_length, rdeclsB] at hres
      simp [ht, u1, u3, u4, g5, g0]
      exact ⟨T, col, hres.symm, hB, by simp [ht], by simp [ht, u1], by simp [ht, u3], by simp [ht, u4]⟩
  · rintro t K hk ⟨T, col, hres, hB, ht, u1, u3, u4⟩
    have hrb : rbuildB s = rprocsB T s.procs := by unfold rbuildB; rw [hres]
    rw [hrb]
    generalize hsc2 : sr5 s.name (.slice b1 s.decls.length s.decls.length) (.slice b2 s.procs.length s.procs.length) (.slice b3 s.claims.length s.claims.length) (.slice b4 s.body.length s.body.length) = sc2 at *
    simp [ht, u1, u3, u4]
    refine loop_mid2 (RProcJ H sc2 (rprocsB T s.procs)) (RProcI H sc2 s.procs (rprocsB T s.procs) s.decls.length) s.procs.length ?_ ?_ ?_
    · exact ⟨0, T, col, Nat.zero_le _, by simp, by simp [ht], by simp, hB⟩
    · clear hB hres hrb
      rintro m t1 K hk1 ⟨k, T1, col, hkl, rfl, g10, hres, hB⟩
      have ht1 : t1.length = 301 := hk1.1.trans (by simp [ht])
      have hh1 := hk1.all [1, 3, 4] (by decide +kernel)
      simp [ht, u1, u3, u4] at hh1
      obtain ⟨z1, z3, z4⟩ := hh1
      have g0 := hB.box
      rw [← hsc2] at g0
      have gr := hB.res
      obtain ⟨x1, x2, x3, x4, x5, x6, hT, _⟩ := hB.tab
      have nK := hB.same.n
      have trK : H.n + 1 < K.n := Heap.lt_of_get gr (by simp)
      have ttK : H.n + 2 < K.n := Heap.lt_of_get hT.obj (by simp)
      simp only [sr5] at g0
      rcases Nat.lt_or_ge k s.procs.length with hlt | hge
      · obtain ⟨id, tl, cs, e1, hid, _, hrow, hcl, hget, hle⟩ := repPrc.G_at hp hlt
        cases e1
        have hrK := hB.same.at hrow (by simp) (fun h => h)
        have hdrop : s.procs.drop k = s.procs[k] :: s.procs.drop (k + 1) := List.drop_eq_getElem_cons hlt
        have hpq := hq s.procs[k] (List.getElem_mem hlt)
        generalize hpk : s.procs[k] = p at *
        rw [hdrop, rprocsB] at hres
        obtain ⟨w1, w2, w3, hc, gp, gv, gb⟩ := hget
        obtain ⟨a1, rfl⟩ := repIdn.G_slice gp
        obtain ⟨a2, rfl⟩ := repIdn.G_slice gv
        obtain ⟨a3, rfl⟩ := repStm.G_slice gb
        simp only [repPrc, pc5] at hc hcl hle
        have hB1 := hB.keep (Same.push (fun _ => False) K (.row true 0 1 [.int .i64 p.at_, .string p.name, .slice a1 p.params.length p.params.length, .slice a2 p.vars.length p.vars.length, .slice a3 p.body.length p.body.length])) (fun _ h => h.elim)
        obtain ⟨y1, y2, y3, y4, y5, y6, hT1, hz1, hz2⟩ := hB1.tab
        have gt1 := hT1.obj
        have gr1 := hB1.res
        have gp1 : (K.push (.row true 0 1 [.int .i64 p.at_, .string p.name, .slice a1 p.params.length p.params.length, .slice a2 p.vars.length p.vars.length, .slice a3 p.body.length p.body.length])).get K.n = _ := Heap.get_push_self _ _
        have eT1 := hasText_run hE hT1.g1 (by have := hB.n1; omega) p.name
        have eT2 := hasText_run hE hT1.g3 (by have := hB.n3; omega) p.name
        have w1 : IntKind.i64.wrap ((k : Int) + 1) = (k : Int) + 1 := wrap64 _ (by omega) (by omega)
        simp only [rt6] at gt1
        simp [ht1, z1, z3, z4, g10, g0, hlt, hrK, hcl, hle, hc]
        have n1 : (K.push (.row true 0 1 [.int .i64 p.at_, .string p.name, .slice a1 p.params.length p.params.length, .slice a2 p.vars.length p.vars.length, .slice a3 p.body.length p.body.length])).n = K.n + 1 := rfl
        generalize hK1 : K.push (.row true 0 1 [.int .i64 p.at_, .string p.name, .slice a1 p.params.length p.params.length, .slice a2 p.vars.length p.vars.length, .slice a3 p.body.length p.body.length]) = K1 at *
        refine region_quiet (by exact q_rb3) ?_
        have sl : PSl H k K.n (Fr t1 [(11, .pointer (some ⟨K.n, 0, none⟩))]) := by
          refine ⟨by simp [ht1], by simp [ht1, z1], by simp [ht1, z3], by simp [ht1, z4], by simp [ht1, g10], by simp [ht1]⟩
        by_cases c1 : hasP T1.names p.name = true ∨ hasP T1.procs p.name = true
        · obtain ⟨K2, eF, kF⟩ := rfault_run hE 17 p.at_ K1
          have gr2 := kF.at gr1 (by simp) (fun h => h)
          have tr2 := Heap.lt_of_get gr2 (by simp)
          have r17 : rprocsB T s.procs = .error (17, p.at_) := by rw [← hres]; unfold rprcB; rw [if_pos c1]
          rw [r17]
          have kE : Same (fun _ => False) H (K2.set (H.n + 1) (.row true 0 1 [.int .i64 17, .int .i64 p.at_])) := (hB1.same.trans kF).then_set tr2 (.inr (by omega)) _
          by_cases c2 : hasP T1.names p.name = true
          · simp [ht1, z1, z3, z4, g10, gt1, gp1, eT1, c2, eF, gr2, tr2]
            exact ⟨kE, rfl⟩
          · have c3 := c1.resolve_left c2
            have c2' : hasP T1.names p.name = false := by simpa using c2
            simp [ht1, z1, z3, z4, g10, gt1, gp1, eT1, eT2, c2', c3, eF, gr2, tr2]
            exact ⟨kE, rfl⟩
        have c2 : hasP T1.names p.name = false := by simpa using fun h => c1 (.inl h)
        have c3 : hasP T1.procs p.name = false := by simpa using fun h => c1 (.inr h)
        obtain ⟨y3b, ey3⟩ := repStr.G_slice hT1.g3
        subst ey3
        have np := hB.n3
        by_cases c4 : 12 ≤ T1.procs.length
        · obtain ⟨K2, eF, kF⟩ := rfault_run hE 16 p.at_ K1
          have gr2 := kF.at gr1 (by simp) (fun h => h)
          have tr2 := Heap.lt_of_get gr2 (by simp)
          have r16 : rprocsB T s.procs = .error (16, p.at_) := by rw [← hres]; unfold rprcB; rw [if_neg c1, if_pos c4]
          rw [r16]
          have kE : Same (fun _ => False) H (K2.set (H.n + 1) (.row true 0 1 [.int .i64 16, .int .i64 p.at_])) := (hB1.same.trans kF).then_set tr2 (.inr (by omega)) _
          have c4' : (12 : Int) ≤ T1.procs.length := by omega
          simp [ht1, z1, z3, z4, g10, gt1, gp1, eT1, eT2, c2, c3, c4, c4', eF, gr2, tr2]
          exact ⟨kE, rfl⟩
        have c4' : ¬ (12 : Int) ≤ T1.procs.length := by omega
        have rerr : ∀ q, rlocB p.params.length [] 0 (p.params ++ p.vars) = .error q → rprocsB T s.procs = .error q := fun q h => by rw [← hres]; unfold rprcB; rw [if_neg c1, if_neg c4, h]
        have rgo : ∀ l, rlocB p.params.length [] 0 (p.params ++ p.vars) = .ok l → rprocsB (rprcT T1 p l) (s.procs.drop (k + 1)) = rprocsB T s.procs := fun l h => by rw [← hres]; unfold rprcB; rw [if_neg c1, if_neg c4, h]
        simp [ht1, z1, z3, z4, g10, gt1, gp1, eT1, eT2, c2, c3, c4, c4']
        have hidl : (p.params ++ p.vars).length = p.params.length + p.vars.length := List.length_append
        have hidx : ∀ j, (p.params ++ p.vars)[j]? = if j < p.params.length then p.params[j]? else p.vars[j - p.params.length]? := fun j => List.getElem?_append
        generalize hids : p.params ++ p.vars = ids at *
        generalize hr0 : rlocB p.params.length [] 0 ids = res at *
        refine loop_mid2 (RLocJ H K1 res) (RLocI H K1 k K.n p.params.length ids res) ids.length ?_ ?_ ?_
        · exact ⟨Same.push _ _ _, 0, [], .slice (some ⟨K1.n, 0, none⟩) 0 0, Nat.zero_le _, by simp, by simp [ht1], by simp [ht1], repStr.G_empty K1 (Nat.le_refl _), rfl, hr0⟩
        · rintro m t2 K2 hk2 ⟨kK, j, acc, v, hj, rfl, g13, g12, gA, hal, hrl⟩
          have ht2 : t2.length = 301 := hk2.1.trans (by simp [ht1])
          have hh2 := hk2.all [1, 3, 4, 10, 11] (by decide +kernel)
          simp [ht1, z1, z3, z4, g10] at hh2
          obtain ⟨x1', x3', x4', x10', x11'⟩ := hh2
          have gp2 := kK.at gp1 (by simp) (fun h => h)
          have gr2 := kK.at gr1 (by simp) (fun h => h)
          have nK2 := kK.n
          have w3 : IntKind.i64.wrap ((p.params.length : Int) + p.vars.length) = (p.params.length : Int) + p.vars.length := wrap64 _ (by omega) (by omega)
          have w4 : IntKind.i64.wrap ((j : Int) + 1) = (j : Int) + 1 := wrap64 _ (by omega) (by omega)
          obtain ⟨vb, rfl⟩ := repStr.G_slice gA
          rcases Nat.lt_or_ge j ids.length with hlt2 | hge2
          · have hjlt : (j : Int) < (p.params.length : Int) + p.vars.length := by omega
            have idrop : ids.drop j = ids[j] :: ids.drop (j + 1) := List.drop_eq_getElem_cons hlt2
            have hxj := hidx j
            rw [List.getElem?_eq_getElem hlt2] at hxj
            rw [idrop] at hrl
            generalize hx : ids[j] = x at *
            rw [rlocB] at hrl
            have kX : ∀ o : AObj, Same (fun _ => False) H (K2.push o) := fun o => (hB1.same.trans kK).then_push o
            have q2 : ∀ o : AObj, (K2.push o).get K.n = K2.get K.n := fun o => by rw [Heap.get_push, if_neg (by omega)]
            have qr : ∀ o : AObj, (K2.push o).get (H.n + 1) = K2.get (H.n + 1) := fun o => by rw [Heap.get_push, if_neg (by omega)]
            have gA3 : repStr.G (K2.push (.row true 0 1 [.int .i64 x.at_, .string x.name])) (fun i => K1.n ≤ i) (.slice vb acc.length acc.length) acc := repStr.G_move (Same.push (fun _ => False) _ _) (fun i hi _ => ⟨hi, fun h => h⟩) gA
            have eT3 := hasText_run hE gA3 (by omega) x.name
            have vlt : ∀ i, vid (.slice vb acc.length acc.length) i → K1.n ≤ i ∧ i < K2.n := fun i hi => ⟨(repStr.G_lt gA hi).2, (repStr.G_lt gA hi).1⟩
            have gA4 : repStr.G (K2.push (.row true 0 1 [.int .i64 x.at_, .string x.name])) (fun i => K1.n ≤ i) (.slice vb acc.length acc.length) acc := gA3
            obtain ⟨v', K4, e4, g4, k4⟩ := repStr.G_app tf_str gA4 (fun i hi => by simp at hi; omega) (by omega) (a := x.name) (c := [.string x.name]) rfl
            obtain ⟨vb', rfl⟩ := repStr.G_slice g4
            have e5 : (acc ++ [x.name]).length = acc.length + 1 := by simp
            rw [e5] at e4 g4
            simp only [repStr, Heap.n_push] at e4
            have fin : ¬ ((j < p.params.length ∧ 4 ≤ j) ∨ 8 ≤ j) → hasP acc x.name = false → ∀ t : List Value, rd t 13 = .int .i64 ((j : Int) + 1) → rd t 12 = .slice vb' (acc.length + 1) (acc.length + 1) → RLocI H K1 k K.n p.params.length ids res (ids.length - (j + 1)) t K4 := fun hc hf t h13 h12 =>
              ⟨(kK.then_push _).then k4 (fun i hi => .inr (vlt i hi).1), j + 1, acc ++ [x.name], _, by omega, rfl, by rw [h13]; simp, h12, g4, by simp; omega, by rw [if_neg (by simp [hf]), if_neg hc] at hrl; exact hrl⟩
            obtain ⟨KF, eF, kF⟩ := rfault_run hE 17 x.at_ (K2.push (.row true 0 1 [.int .i64 x.at_, .string x.name]))
            obtain ⟨KG, eG, kG⟩ := rfault_run hE 16 x.at_ (K2.push (.row true 0 1 [.int .i64 x.at_, .string x.name]))
            have grF := kF.at ((qr _).trans gr2) (by simp) (fun h => h)
            have grG := kG.at ((qr _).trans gr2) (by simp) (fun h => h)
            have trF := Heap.lt_of_get grF (by simp)
            have trG := Heap.lt_of_get grG (by simp)
            have kEF : Same (fun _ => False) H (KF.set (H.n + 1) (.row true 0 1 [.int .i64 17, .int .i64 x.at_])) := ((kX _).trans kF).then_set trF (.inr (by omega)) _
            have kEG : Same (fun _ => False) H (KG.set (H.n + 1) (.row true 0 1 [.int .i64 16, .int .i64 x.at_])) := ((kX _).trans kG).then_set trG (.inr (by omega)) _
            have r17 : hasP acc x.name = true → rprocsB T s.procs = .error (17, x.at_) := fun h => rerr _ (by rw [if_pos h] at hrl; exact hrl.symm)
            have r16 : hasP acc x.name = false → (j < p.params.length ∧ 4 ≤ j) ∨ 8 ≤ j → rprocsB T s.procs = .error (16, x.at_) := fun h h' => rerr _ (by rw [if_neg (by simp [h]), if_pos h'] at hrl; exact hrl.symm)
            by_cases d1 : j < p.params.length
            · have d1' : (j : Int) < p.params.length := by omega
              obtain ⟨aid, atl, acs, ae, _, alt, arow, acl, aget, ale⟩ := repIdn.G_at gp d1
              cases ae
              have hx' : p.params[j] = x := by rw [if_pos d1, List.getElem?_eq_getElem d1] at hxj; exact (Option.some.inj hxj).symm
              rw [hx'] at aget
              simp only [repIdn, Idn.cells] at aget acl ale arow
              have arX := fun o : AObj => (kX o).at arow (by simp) (fun h => h)
              by_cases hf : hasP acc x.name = true
              · rw [r17 hf]
                simp [ht2, x1', x3', x4', x10', x11', g13, g12, gp2, w3, hjlt, q2, d1, d1', arX, acl, ale, aget, eT3, hf, eF, grF, trF]
                exact ⟨kEF, rfl⟩
              have hf' : hasP acc x.name = false := by simpa using hf
              by_cases d2 : 4 ≤ j
              · have d2' : (4 : Int) ≤ j := by omega
                rw [r16 hf' (.inl ⟨d1, d2⟩)]
                simp [ht2, x1', x3', x4', x10', x11', g13, g12, gp2, w3, hjlt, q2, d1, d1', arX, acl, ale, aget, eT3, hf', d2, d2', eG, grG, trG]
                exact ⟨kEG, rfl⟩
              · have d2' : ¬ (4 : Int) ≤ j := by omega
                have d3' : ¬ (8 : Int) ≤ j := by omega
                simp [ht2, x1', x3', x4', x10', x11', g13, g12, gp2, w3, hjlt, q2, d1, d1', arX, acl, ale, aget, eT3, hf', d2, d2', d3', e4, w4]
                exact ⟨_, by omega, fin (by omega) hf' _ (by simp [ht2]) (by simp [ht2])⟩
            · have d1' : ¬ (j : Int) < p.params.length := by omega
              have dv : j - p.params.length < p.vars.length := by omega
              obtain ⟨aid, atl, acs, ae, _, alt, arow, acl, aget, ale⟩ := repIdn.G_at gv dv
              cases ae
              have hx' : p.vars[j - p.params.length] = x := by rw [if_neg d1, List.getElem?_eq_getElem dv] at hxj; exact (Option.some.inj hxj).symm
              rw [hx'] at aget
              simp only [repIdn, Idn.cells] at aget acl ale arow
              have arX := fun o : AObj => (kX o).at arow (by simp) (fun h => h)
              have w5 : IntKind.i64.wrap ((j : Int) - p.params.length) = ((j - p.params.length : Nat) : Int) := by rw [wrap64 _ (by omega) (by omega)]; omega
              have dvi : ((j - p.params.length : Nat) : Int) < p.vars.length := by omega
              by_cases hf : hasP acc x.name = true
              · rw [r17 hf]
                simp [ht2, x1', x3', x4', x10', x11', g13, g12, gp2, w3, hjlt, q2, d1, d1', arX, acl, ale, aget, w5, dv, dvi, eT3, hf, eF, grF, trF]
                exact ⟨kEF, rfl⟩
              have hf' : hasP acc x.name = false := by simpa using hf
              by_cases d3 : 8 ≤ j
              · have d3' : (8 : Int) ≤ j := by omega
                rw [r16 hf' (.inr d3)]
                simp [ht2, x1', x3', x4', x10', x11', g13, g12, gp2, w3, hjlt, q2, d1, d1', arX, acl, ale, aget, w5, dv, dvi, eT3, hf', d3, d3', eG, grG, trG]
                exact ⟨kEG, rfl⟩
              · have d3' : ¬ (8 : Int) ≤ j := by omega
                simp [ht2, x1', x3', x4', x10', x11', g13, g12, gp2, w3, hjlt, q2, d1, d1', arX, acl, ale, aget, w5, dv, dvi, eT3, hf', d3, d3', e4, w4]
                exact ⟨_, by omega, fin (by omega) hf' _ (by simp [ht2]) (by simp [ht2])⟩
          · have : j = ids.length := by omega
            subst this
            rw [List.drop_length, rlocB] at hrl
            have hjlt : ¬ ((ids.length : Int) < (p.params.length : Int) + p.vars.length) := by omega
            simp [ht2, x1', x3', x4', x10', x11', g13, g12, gp2, w3, hjlt]
            exact ⟨kK, acc, _, hrl.symm, by simp [ht2, g12], gA⟩
        · rintro t2 K2 hk2 ⟨kK, acc, v, hra, g12, gA⟩
          have ht2 : t2.length = 301 := hk2.1.trans (by simp [ht1])
          have hh2 := hk2.all [1, 3, 4, 10, 11] (by decide +kernel)
          simp [ht1, z1, z3, z4, g10] at hh2
          obtain ⟨x1', x3', x4', x10', x11'⟩ := hh2
          subst g12
          obtain ⟨vb, evb⟩ := repStr.G_slice gA
          have gt0 := hT.tc
          have cz : ∀ i, K.n ≤ i → col i = 0 := hT.top
          have hX : ∀ i, col i ≠ 0 → i < K.n := fun i hi => by
            rcases Nat.lt_or_ge i K.n with h | h
            · exact h
            · exact absurd (cz i h) hi
          have hB3 := hB1.keep kK (fun _ h => h.elim)
          have hT3 := hT1.keep kK (fun _ h => h.elim)
          have gp3 := kK.at gp1 (by simp) (fun h => h)
          have nK2 := kK.n
          have gt3 := hT3.obj
          simp only [rt6] at gt3
          have kR : Same (fun _ => False) K2 (Heap.room 6 K2) := room6 K2
          have nR : (Heap.room 6 K2).n = K2.n + 6 := rfl
          have g5' : repStrs.G K2 (fun i => col i = 6 ∨ (K1.n ≤ i ∧ i < K2.n)) y5 T1.locals := repStrs.G_move (Same.refl (fun _ => False) _) (fun i hi _ => ⟨.inl hi, fun h => h⟩) hT3.g5
          have v5lt : ∀ i, vid y5 i → col i = 6 := fun i hi => (repStrs.G_lt hT3.g5 hi).2
          obtain ⟨H2, H4, H6, e2, e4, e6, q2, q4, q6, m2, m4, m6, G3, G4, G5⟩ := app3 repStr repInt repStrs tf_str tf_int tf_strs kR nR (S1 := fun i => col i = 4) (S2 := fun i => col i = 5) (S3 := fun i => col i = 6 ∨ (K1.n ≤ i ∧ i < K2.n))
            (fun i h => by have := hX i (by omega); omega) (fun i h => by have := hX i (by omega); omega) (fun i h => by
              rcases h with h | h
              · have := hX i (by omega); omega
              · omega) (fun i h => by omega) (fun i h h' => by
              have := hX i (by omega)
              rcases h' with h' | h' <;> omega) (fun i h h' => by
              have := hX i (by omega)
              rcases h' with h' | h' <;> omega)
            hT3.g3 hT3.g4 g5' (a1 := p.name) (a2 := (p.params.length : Int)) (a3 := acc) rfl rfl ⟨rd t2 12, rfl, repStr.G_move (Same.refl (fun _ => False) _) (fun i hi hl => ⟨⟨.inr ⟨hi, hl⟩, fun e => by have := v5lt i e; have := cz i (by omega); omega⟩, fun h => h⟩) gA⟩ (by omega) (by have := hB.n4; omega) (by have := hB.n5; omega)
          simp only [repStr, repInt, repStrs] at e2 e4 e6
          refine region_free (by exact no_rb4) (by exact la_rb4) (by exact pr_rb4) (by exact ok_rb4) (by exact ne_rb4) ?_
          generalize hR : Heap.room 6 K2 = R at *
          have gtR : R.get (H.n + 2) = _ := kR.at gt3 (by simp) (fun h => h)
          have gpR : R.get K.n = _ := kR.at gp3 (by simp) (fun h => h)
          have gt2 : H2.get (H.n + 2) = _ := q2.at gt3 (by simp) (by omega)
          have gp2 : H2.get K.n = _ := q2.at gp3 (by simp) (by have := cz K.n (by omega); omega)
          have gt4 : H4.get (H.n + 2) = _ := q4.at gt3 (by simp) (by omega)
          have gt6 : H6.get (H.n + 2) = _ := q6.at gt3 (by simp) (by omega)
          have bs : ∀ (A : Heap) (r : Nat) (x : ByteArray), r < A.n → exBuildSliceAt Try.prog 111 1 [(0, .string x)] r A = some (.slice (some ⟨r, 0, none⟩) 1 1, A.set r (.row true 0 1 [.string x])) := fun A r x h => by
            simp [exBuildSliceAt, Heap.pushAt_lt h]; rfl
          have bi : ∀ (A : Heap) (r : Nat) (x : Int), r < A.n → exBuildSliceAt Try.prog 61 1 [(0, .int .i64 x)] r A = some (.slice (some ⟨r, 0, none⟩) 1 1, A.set r (.row true 0 1 [.int .i64 x])) := fun A r x h => by
            simp [exBuildSliceAt, Heap.pushAt_lt h]; rfl
          have bl : ∀ (A : Heap) (r : Nat), r < A.n → exBuildSliceAt Try.prog 113 1 [(0, rd t2 12)] r A = some (.slice (some ⟨r, 0, none⟩) 1 1, A.set r (.row true 0 1 [rd t2 12])) := fun A r h => by
            rw [evb]
            simp [exBuildSliceAt, Heap.pushAt_lt h]; rfl
          have b1' := bs R K2.n p.name (by omega)
          have b2' := bi H2 (K2.n + 2) p.params.length (by omega)
          have b3' := bl H4 (K2.n + 4) (by omega)
          have t6' : H.n + 2 < H6.n := by omega
          have kF : Same (fun i => col i = 4 ∨ col i = 5 ∨ col i = 6 ∨ i = H.n + 2 ∨ (K1.n ≤ i ∧ i < K2.n)) K2 (H6.set (H.n + 2) (.row true 0 1 (rt6 y1 y2 (.slice (some ⟨K2.n + 1, 0, none⟩) (T1.procs.length + 1) (T1.procs.length + 1)) (.slice (some ⟨K2.n + 3, 0, none⟩) (T1.heads.length + 1) (T1.heads.length + 1)) (.slice (some ⟨K2.n + 5, 0, none⟩) (T1.locals.length + 1) (T1.locals.length + 1)) y6))) :=
            (q6.mono fun i h => by
              rcases h with h | h | h | h
              · exact .inl h
              · exact .inr (.inl h)
              · exact .inr (.inr (.inl h))
              · exact .inr (.inr (.inr (.inr h)))).trans (Same.set H6 t6' (.inr (.inr (.inr (.inl rfl)))) _)
          have kS : Same (fun i => i = H.n + 2) H6 (H6.set (H.n + 2) (.row true 0 1 (rt6 y1 y2 (.slice (some ⟨K2.n + 1, 0, none⟩) (T1.procs.length + 1) (T1.procs.length + 1)) (.slice (some ⟨K2.n + 3, 0, none⟩) (T1.heads.length + 1) (T1.heads.length + 1)) (.slice (some ⟨K2.n + 5, 0, none⟩) (T1.locals.length + 1) (T1.locals.length + 1)) y6))) := Same.set (X := fun i => i = H.n + 2) H6 t6' rfl _
          have zz := hB.zero
          have colv : ∀ i, i < K1.n → (if i = K2.n + 1 then 4 else if i = K2.n + 3 then 5 else if i = K2.n + 5 then 6 else if K1.n ≤ i ∧ i < K2.n then 6 else col i) = col i := fun i hi => by rw [if_neg (by omega), if_neg (by omega), if_neg (by omega), if_neg (by omega)]
          have next : ∀ sc, K2.get H.n = .row true 0 1 sc → RAt H (H6.set (H.n + 2) (.row true 0 1 (rt6 y1 y2 (.slice (some ⟨K2.n + 1, 0, none⟩) (T1.procs.length + 1) (T1.procs.length + 1)) (.slice (some ⟨K2.n + 3, 0, none⟩) (T1.heads.length + 1) (T1.heads.length + 1)) (.slice (some ⟨K2.n + 5, 0, none⟩) (T1.locals.length + 1) (T1.locals.length + 1)) y6))) sc (fun i => (if i = K2.n + 1 then 4 else if i = K2.n + 3 then 5 else if i = K2.n + 5 then 6 else if K1.n ≤ i ∧ i < K2.n then 6 else col i)) (rprcT T1 p acc) s.decls.length (k + 1) := by
            intro sc hsc
            refine ⟨hB3.same.then kF (fun i hi => .inr ?_), kF.at hsc (by simp) ?_, kF.at hB3.res (by simp) ?_, ⟨_, _, _, _, _, _, ⟨Heap.get_set_self _ _ t6', by rw [colv _ (by omega)]; exact gt0, ?_, ?_, ?_, ?_, ?_, ?_, ?_⟩, hz1, fun h => by omega⟩, fun i hi => by rw [colv i (by omega)]; exact zz i hi, hB.n1, hB.n2, hB.n6, by simp [rprcT]; exact hB.n3, by simp [rprcT]; exact hB.n4, by simp [rprcT]; exact hB.n5⟩
            · have := zz i
              omega
            · have := zz H.n (by omega)
              omega
            · have := zz (H.n + 1) (by omega)
              omega
            · exact repStr.G_move kF (fun i hi hlt => ⟨by have hk := hX i (by omega); rw [colv i (by omega)]; exact hi, fun e => by
                have hk := hX i (by omega)
                rcases e with e | e | e | e | e
                · omega
                · omega
                · omega
                · rw [e] at hi; omega
                · omega⟩) hT3.g1
            · exact repNm.G_move kF (fun i hi hlt => ⟨by have hk := hX i (by omega); rw [colv i (by omega)]; exact hi, fun e => by
                have hk := hX i (by omega)
                rcases e with e | e | e | e | e
                · omega
                · omega
                · omega
                · rw [e] at hi; omega
                · omega⟩) hT3.g2
            · have := repStr.G_move kS (S' := fun i => (if i = K2.n + 1 then 4 else if i = K2.n + 3 then 5 else if i = K2.n + 5 then 6 else if K1.n ≤ i ∧ i < K2.n then 6 else col i) = 4) (fun i hi hlt => by
                rcases hi with h | h
                · have hk := hX i (by omega)
                  exact ⟨by rw [colv i (by omega)]; exact h, fun e => by rw [e] at h; omega⟩
                · exact ⟨by rw [if_pos h], by omega⟩) G3
              simpa [rprcT] using this
            · have := repInt.G_move kS (S' := fun i => (if i = K2.n + 1 then 4 else if i = K2.n + 3 then 5 else if i = K2.n + 5 then 6 else if K1.n ≤ i ∧ i < K2.n then 6 else col i) = 5) (fun i hi hlt => by
                rcases hi with h | h
                · have hk := hX i (by omega)
                  exact ⟨by rw [colv i (by omega)]; exact h, fun e => by rw [e] at h; omega⟩
                · exact ⟨by rw [if_neg (by omega), if_pos h], by omega⟩) G4
              simpa [rprcT] using this
            · have := repStrs.G_move kS (S' := fun i => (if i = K2.n + 1 then 4 else if i = K2.n + 3 then 5 else if i = K2.n + 5 then 6 else if K1.n ≤ i ∧ i < K2.n then 6 else col i) = 6) (fun i hi hlt => by
                rcases hi with (h | h) | h
                · have hk := hX i (by omega)
                  exact ⟨by rw [colv i (by omega)]; exact h, fun e => by rw [e] at h; omega⟩
                · exact ⟨by rw [if_neg (by omega), if_neg (by omega), if_neg (by omega), if_pos h], by omega⟩
                · exact ⟨by rw [if_neg (by omega), if_neg (by omega), if_pos h], by omega⟩) G5
              simpa [rprcT] using this
            · exact repInt.G_move kF (fun i hi hlt => ⟨by have hk := hX i (by omega); rw [colv i (by omega)]; exact hi, fun e => by
                have hk := hX i (by omega)
                rcases e with e | e | e | e | e
                · omega
                · omega
                · omega
                · rw [e] at hi; omega
                · omega⟩) hT3.g6
            · intro i hi
              have hi' : K2.n + 6 ≤ i := by rw [← m6]; exact hi
              rw [if_neg (by omega), if_neg (by omega), if_neg (by omega), if_neg (by omega)]
              exact cz i (by omega)
          rcases Nat.eq_zero_or_pos k with hk0 | hk0
          · obtain ⟨f3, f4, f5⟩ := hz2 hk0
            simp only [nl, Value.slice.injEq] at f3
            obtain ⟨rfl, _, _⟩ := f3
            subst f4
            subst f5
            simp only [nl] at e4 e6
            simp [ht2, x1', x3', x4', x10', x11', gtR, gpR, b1', e2, gt2, gp2, b2', e4, gt4, b3', e6, gt6, t6']
            have ne : ∀ {a b : Nat}, a < b → (a = b) = False ∧ (b = a) = False := fun h => ⟨eq_false (by omega), eq_false (by omega)⟩
            have nq : ∀ {a b : Nat}, a ≠ b → (a = b) = False ∧ (b = a) = False := fun h => ⟨eq_false h, eq_false fun e => h e.symm⟩
            have s1 := ne (show H.n < K2.n by omega)
            have s2 := ne (show H.n + 1 < K2.n by omega)
            have s3 := ne (show H.n < K2.n + 1 by omega)
            have ap0 := ne (show H.n + 2 < K.n by omega)
            have ap1 := ne (show H.n + 2 < K2.n by omega)
            have ap2 := ne (show H.n + 2 < K2.n + 1 by omega)
            have ap3 := ne (show H.n + 2 < K2.n + 2 by omega)
            have ap4 := ne (show H.n + 2 < K2.n + 2 + 1 by omega)
            have ap5 := ne (show H.n + 2 < K2.n + 3 by omega)
            have ap6 := ne (show H.n + 2 < K2.n + 4 by omega)
            have ap7 := ne (show H.n + 2 < K2.n + 4 + 1 by omega)
            have ap8 := ne (show H.n + 2 < K2.n + 5 by omega)
            have ap9 := ne (show K.n < K2.n by omega)
            have ap10 := ne (show K.n < K2.n + 1 by omega)
            have ap11 := ne (show K.n < K2.n + 2 by omega)
            have ap12 := ne (show K.n < K2.n + 2 + 1 by omega)
            have ap13 := ne (show K.n < K2.n + 3 by omega)
            have ap14 := ne (show K.n < K2.n + 4 by omega)
            have ap15 := ne (show K.n < K2.n + 4 + 1 by omega)
            have ap16 := ne (show K.n < K2.n + 5 by omega)
            simp (config := { decide := true }) [pre_rb4, List.elem_eq_mem, s1, s2, s3, ht2, x10', w1, ap0, ap1, ap2, ap3, ap4, ap5, ap6, ap7, ap8, ap9, ap10, ap11, ap12, ap13, ap14, ap15, ap16]
            exact ⟨s.procs.length - (k + 1), by omega, k + 1, _, _, by omega, rfl, by simp [ht2], rgo acc hra, next _ hB3.box⟩
          · obtain ⟨p3, f3, cp3, hp3⟩ := repStr.G_some hT3.g3 (by omega)
            obtain ⟨p4, f4, cp4, hp4⟩ := repInt.G_some hT3.g4 (by have := hB.n4; omega)
            obtain ⟨p5, f5, cp5, hp5⟩ := repStrs.G_some hT3.g5 (by have := hB.n5; omega)
            cases f3
            subst f4
            subst f5
            simp [ht2, x1', x3', x4', x10', x11', gtR, gpR, b1', e2, gt2, gp2, b2', e4, gt4, b3', e6, gt6, t6']
            have h3' := hX p3 (by omega)
            have h4' := hX p4 (by omega)
            have h5' := hX p5 (by omega)
            have ne : ∀ {a b : Nat}, a < b → (a = b) = False ∧ (b = a) = False := fun h => ⟨eq_false (by omega), eq_false (by omega)⟩
            have nq : ∀ {a b : Nat}, a ≠ b → (a = b) = False ∧ (b = a) = False := fun h => ⟨eq_false h, eq_false fun e => h e.symm⟩
            have s1 := ne (show H.n < K2.n by omega)
            have s2 := ne (show H.n + 1 < K2.n by omega)
            have s3 := ne (show H.n < K2.n + 1 by omega)
            have o1 := nq (show p3 ≠ H.n + 2 from fun e => by rw [e] at cp3; omega)
            have o2 := nq (show p4 ≠ H.n + 2 from fun e => by rw [e] at cp4; omega)
            have o3 := nq (show p5 ≠ H.n + 2 from fun e => by rw [e] at cp5; omega)
            have o4 := nq (show p3 ≠ p4 from fun e => by rw [e] at cp3; omega)
            have o5 := nq (show p3 ≠ p5 from fun e => by rw [e] at cp3; omega)
            have o6 := nq (show p4 ≠ p5 from fun e => by rw [e] at cp4; omega)
            have ap0 := ne (show H.n + 2 < K.n by omega)
            have ap1 := ne (show H.n + 2 < K2.n by omega)
            have ap2 := ne (show H.n + 2 < K2.n + 1 by omega)
            have ap3 := ne (show H.n + 2 < K2.n + 2 by omega)
            have ap4 := ne (show H.n + 2 < K2.n + 2 + 1 by omega)
            have ap5 := ne (show H.n + 2 < K2.n + 3 by omega)
            have ap6 := ne (show H.n + 2 < K2.n + 4 by omega)
            have ap7 := ne (show H.n + 2 < K2.n + 4 + 1 by omega)
            have ap8 := ne (show H.n + 2 < K2.n + 5 by omega)
            have ap9 := ne (show K.n < K2.n by omega)
            have ap10 := ne (show K.n < K2.n + 1 by omega)
            have ap11 := ne (show K.n < K2.n + 2 by omega)
            have ap12 := ne (show K.n < K2.n + 2 + 1 by omega)
            have ap13 := ne (show K.n < K2.n + 3 by omega)
            have ap14 := ne (show K.n < K2.n + 4 by omega)
            have ap15 := ne (show K.n < K2.n + 4 + 1 by omega)
            have ap16 := ne (show K.n < K2.n + 5 by omega)
            have ap17 := ne (show p3 < K.n by omega)
            have ap18 := ne (show p3 < K2.n by omega)
            have ap19 := ne (show p3 < K2.n + 1 by omega)
            have ap20 := ne (show p3 < K2.n + 2 by omega)
            have ap21 := ne (show p3 < K2.n + 2 + 1 by omega)
            have ap22 := ne (show p3 < K2.n + 3 by omega)
            have ap23 := ne (show p3 < K2.n + 4 by omega)
            have ap24 := ne (show p3 < K2.n + 4 + 1 by omega)
            have ap25 := ne (show p3 < K2.n + 5 by omega)
            have ap26 := ne (show p4 < K.n by omega)
            have ap27 := ne (show p4 < K2.n by omega)
            have ap28 := ne (show p4 < K2.n + 1 by omega)
            have ap29 := ne (show p4 < K2.n + 2 by omega)
            have ap30 := ne (show p4 < K2.n + 2 + 1 by omega)
            have ap31 := ne (show p4 < K2.n + 3 by omega)
            have ap32 := ne (show p4 < K2.n + 4 by omega)
            have ap33 := ne (show p4 < K2.n + 4 + 1 by omega)
            have ap34 := ne (show p4 < K2.n + 5 by omega)
            have ap35 := ne (show p5 < K.n by omega)
            have ap36 := ne (show p5 < K2.n by omega)
            have ap37 := ne (show p5 < K2.n + 1 by omega)
            have ap38 := ne (show p5 < K2.n + 2 by omega)
            have ap39 := ne (show p5 < K2.n + 2 + 1 by omega)
            have ap40 := ne (show p5 < K2.n + 3 by omega)
            have ap41 := ne (show p5 < K2.n + 4 by omega)
            have ap42 := ne (show p5 < K2.n + 4 + 1 by omega)
            have ap43 := ne (show p5 < K2.n + 5 by omega)
            simp (config := { decide := true }) [pre_rb4, List.elem_eq_mem, s1, s2, s3, ht2, x10', w1, o1, o2, o3, o4, o5, o6, ap0, ap1, ap2, ap3, ap4, ap5, ap6, ap7, ap8, ap9, ap10, ap11, ap12, ap13, ap14, ap15, ap16, ap17, ap18, ap19, ap20, ap21, ap22, ap23, ap24, ap25, ap26, ap27, ap28, ap29, ap30, ap31, ap32, ap33, ap34, ap35, ap36, ap37, ap38, ap39, ap40, ap41, ap42, ap43]
            exact ⟨s.procs.length - (k + 1), by omega, k + 1, _, _, by omega, rfl, by simp [ht2], rgo acc hra, next _ hB3.box⟩
      · have : k = s.procs.length := by omega
        subst this
        rw [List.drop_length, rprocsB] at hres
        simp [ht1, z1, z3, z4, g10, g0]
        exact ⟨T1, col, _, _, hres.symm, hB, by simp [ht1], by simp [ht1, z3], by simp [ht1, z4]⟩
    · rintro t1 K1 hk1 ⟨T', col', nd, np, hok, hB, ht1, z3, z4⟩
      have gr := hB.res
      have tr := Heap.lt_of_get gr (by simp)
      obtain ⟨x1, x2, x3, x4, x5, x6, hT, _⟩ := hB.tab
      have ttK : H.n + 2 < K1.n := Heap.lt_of_get hT.obj (by simp)
      simp [ht1, z3, z4, gr, tr]
      rw [hok]
      have kS : Same (fun i => i = H.n + 1) K1 (K1.set (H.n + 1) (.row true 0 1 [.int .i64 0, .int .i64 0])) := Same.set (X := fun i => i = H.n + 1) K1 tr rfl _
      exact ⟨hB.same.then_set tr (.inr (by omega)) _, col', H.n + 2, _, _, _, _, _, _, rfl, hT.keep kS (fun i hi => by rw [hi]; exact hB.zero _ (Nat.le_refl _)), fun i hi => hB.zero i (by omega)⟩
end
end Go.Vm.Scope
