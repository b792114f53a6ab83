/- What is proved: 'signalboxlaw23.ExprRel' hands back true, whatever the input. -/
import Derived.Test.YtblmgcfigcpoaaaExprP
import Derived.Test.YtblmgcfigcpoaaaStr
namespace Go.Vm.Ex
open Go Go.Proofs Go.Vm.Parse Go.Vm.ExprLaw
set_option maxRecDepth 100000
set_option maxHeartbeats 4000000
set_option linter.unusedSimpArgs false
set_option linter.unusedVariables false
attribute [local simp] repCells_succ writeAt rd_Fr toList_beq gpe gpn spe gse gsn ne_r0 ne_l0 le_s0 ne_r1 ne_l1 lt_s1 le_s1 ne_r2 ne_l2 lt_s2 le_s2 ne_r3 ne_l3 lt_s3 le_s3 ne_r4 ne_l4 lt_s4 le_s4 ne_r5 ne_l5 lt_s5 le_s5 ne_r6 ne_l6 lt_s6 le_s6 ne_r7 ne_l7 lt_s7 le_s7
def sgn (k : Nat) : ByteArray := match k with
  | 0 => ⟨#[61]⟩
  | 1 => ⟨#[60, 62]⟩
  | 2 => ⟨#[60]⟩
  | 3 => ⟨#[60, 61]⟩
  | 4 => ⟨#[62]⟩
  | _ => ⟨#[62, 61]⟩
def relT1 (k1 k2 : Nat) : ByteArray := ⟨#[117, 32]⟩ ++ sgn k1 ++ ⟨#[32, 118, 32]⟩ ++ sgn k2 ++ ⟨#[32, 119]⟩
def relT2 (k1 : Nat) : ByteArray := ⟨#[117, 32, 111, 114, 32, 110, 111, 116, 32, 118, 32]⟩ ++ sgn k1 ++ ⟨#[32, 49, 32, 97, 110, 100, 32, 119]⟩
def isRel (k : Nat) : Ex → Bool
  | .mk _ _ _ o _ _ => decide (o = 15 + k)
def isG (k : Nat) : Ex → Bool
  | .mk _ _ _ o _ [_, .mk _ _ _ o2 _ [.mk _ _ _ o3 _ [.mk _ _ _ o4 _ _], _]] => decide (o = 22 ∧ o2 = 21 ∧ o3 = 23 ∧ o4 = 15 + k)
  | _ => false
def chkR (l : List UInt8) (p : Nat) (q : Ex → Bool) : Bool := match lexFrom l 60 0 [] with
  | some (.inl L) => match xP L 60 (.row 1 1) ⟨0, 0, 0⟩ with
    | some (e, s) => decide (s.c = 0) && decide (s.p = p) && q e && decide (L.length ≤ 100)
    | none => false
  | _ => false
theorem rel1 : ∀ k1, k1 < 6 → ∀ k2, k2 < 6 → chkR (relT1 k1 k2).data.toList 3 (isRel k1) = true ∧ (relT1 k1 k2).size ≤ 60 := by decide +kernel
theorem rel2 : ∀ k1, k1 < 6 → chkR (relT2 k1).data.toList 8 (isG k1) = true ∧ (relT2 k1).size ≤ 60 := by decide +kernel
theorem chkR_run {x : ByteArray} {p : Nat} {q : Ex → Bool} (h : chkR x.data.toList p q = true) (hs : x.size ≤ 60) (H : Heap) :
    ∃ (L : List Tk) (lid tl : Nat) (K : Heap) (e : Ex), (run Try.prog E1).call 8 [.slice (some ⟨H.n, 0, none⟩) x.size x.size] (H.push (.row true 1 1 (bytesOf x))) = some (.val (.tuple #[.slice (some ⟨lid, 0, none⟩) L.length L.length, .agg #[.int .i64 0, .int .i64 0]]), K) ∧
      Same (fun _ => False) H K ∧ q e = true ∧ lid < K.n ∧ ∀ K', Same (fun _ => False) K K' → ∃ cs K2, (run Try.prog E1).call 12 [.slice (some ⟨lid, 0, none⟩) L.length L.length, .int .i64 0, .int .i64 1] K' = some (.val (.tuple #[.agg ⟨cs⟩, .int .i64 p, .agg ⟨[.int .i64 0, .int .i64 0]⟩]), K2) ∧
        Same (fun _ => False) K' K2 ∧ RE K2 (fun i => K'.n ≤ i) e cs := by
  unfold chkR at h
  cases hl : lexFrom x.data.toList 60 0 [] with
  | none => rw [hl] at h; cases h
  | some res =>
    rw [hl] at h
    cases res with
    | inr f => cases h
    | inl L =>
      simp only [] at h
      cases hx : xP L 60 (.row 1 1) ⟨0, 0, 0⟩ with
      | none => rw [hx] at h; cases h
      | some r =>
        obtain ⟨e, s⟩ := r
        rw [hx] at h
        simp only [Bool.and_eq_true, decide_eq_true_eq] at h
        obtain ⟨⟨⟨hc, hp⟩, hq⟩, hL⟩ := h
        have hlen : x.data.toList.length = x.size := rfl
        obtain ⟨o, K, e1, k1, id, hid, rfl, tl, htl, hg⟩ := all_walk plain_E1 (text_BS2 x H) (by omega) hl
        rw [hlen] at e1
        refine ⟨L, id, tl, K, e, e1, (Same.push _ _ _).trans k1, hq, Heap.lt_of_get hg (by simp), fun K' kK => ?_⟩
        obtain ⟨o2, K2, e2, k2, hR⟩ := par_walk plain_E1 (kK.at hg (by simp) (fun h => h)) (by omega) (p := 0) (Nat.zero_le _) (lv := 1) (by omega) (by omega) hx
        rw [if_pos hc] at hR
        obtain ⟨cs, rfl, hr⟩ := hR
        rw [hp] at e2
        exact ⟨cs, K2, e2, k2, hr⟩
theorem pl_rel2 : planOf Try.prog (drawN Try.f6 0) = some [none, none, (some (1, 1)), (some (1, 1)), (some (0, 1)), none, none, none, none, none] := by decide +kernel
theorem pl_rel7 : planOf Try.prog (drawN Try.f6 1) = some [none, none, none, none, none, none, none, none, none, none, none, none, none, (some (0, 1)), (some (0, 1)), none, none, none, none, none, none, none, none, none, none, none, none, none, none, none, none, none, none, none, none] := by decide +kernel
theorem pl_rel10 : planOf Try.prog (drawN Try.f6 2) = some [none, none, none, none, none, none, none, none, none, none, none, none, none, none, none, none, none, none, none, none, none, none, none, none, none, none, none, (some (0, 1)), (some (0, 1)), (some (0, 1)), (some (0, 1)), (some (0, 1)), (some (0, 1)), (some (0, 1)), (some (0, 1)), none, none, none, none, none, none, none, none, none] := by decide +kernel
theorem b_sgn : exBuild Try.prog 45 [(0, Value.string { data := #[61] }), (1, Value.string { data := #[60, 62] }), (2, Value.string { data := #[60] }), (3, Value.string { data := #[60, 61] }), (4, Value.string { data := #[62] }), (5, Value.string { data := #[62, 61] })] = some (.agg ⟨[.string (sgn 0), .string (sgn 1), .string (sgn 2), .string (sgn 3), .string (sgn 4), .string (sgn 5)]⟩) := by kernel_rfl
theorem sgn_at {k : Nat} (h : k ≤ 5) : [Value.string (sgn 0), .string (sgn 1), .string (sgn 2), .string (sgn 3), .string (sgn 4), .string (sgn 5)][k]? = some (.string (sgn k)) := by
  rcases (show k = 0 ∨ k = 1 ∨ k = 2 ∨ k = 3 ∨ k = 4 ∨ k = 5 by omega) with rfl | rfl | rfl | rfl | rfl | rfl <;> rfl
theorem sgn_get {k : Nat} (h : k < [Value.string (sgn 0), .string (sgn 1), .string (sgn 2), .string (sgn 3), .string (sgn 4), .string (sgn 5)].length) : [Value.string (sgn 0), .string (sgn 1), .string (sgn 2), .string (sgn 3), .string (sgn 4), .string (sgn 5)][k] = .string (sgn k) := by
  have e := sgn_at (k := k) (by simp at h; omega)
  rw [List.getElem?_eq_getElem h] at e
  simpa using e
theorem c_Rel (args : List Value) (H : Heap) : (run Try.prog E1).call 6 args H = callB Try.prog E1 Try.f6 args H := call_B Try.func6 rfl (by decide +kernel) rfl args H
theorem rel_walk (a : Int) (w1 : Lit.wf (.int .i64 a) = true) (b : Int) (w2 : Lit.wf (.int .i64 b) = true) : Gives ((run Try.prog E1).call 6 [.int .i64 a, .int .i64 b] Heap.empty) fun o _ => o = .val (.bool true) := by
  have aw := awake_true
  obtain ⟨k1, p0, p1, ek1⟩ := within_any plain_E1 w1 0 5 (by omega) (by omega) (by omega)
  obtain ⟨k2, q0, q1, ek2⟩ := within_any plain_E1 w2 0 5 (by omega) (by omega) (by omega)
  obtain ⟨ch1, sz1⟩ := rel1 k1 (by omega) k2 (by omega)
  obtain ⟨ch2, sz2⟩ := rel2 k1 (by omega)
  obtain ⟨K0, hK0⟩ : ∃ K0, K0 = Heap.empty.push (.row true 0 1 [.string (sgn 0), .string (sgn 1), .string (sgn 2), .string (sgn 3), .string (sgn 4), .string (sgn 5)]) := ⟨_, rfl⟩
  have sg1 := sgn_at (k := k1) (by omega)
  have sg2 := sgn_at (k := k2) (by omega)
  have zs : ∀ k, (sgn k).size ≤ 2 := fun k => by unfold sgn; split <;> decide
  have za := zs k1
  have zb := zs k2
  obtain ⟨L1, lid1, tl1, K1, x1, e1, s1, h1, hl1, par1⟩ := chkR_run ch1 sz1 K0
  obtain ⟨cs1, K2, e2, s2, r2⟩ := par1 (K1.push (.row true 0 1 [.int .i64 0, .int .i64 0])) (Same.push _ _ _)
  obtain ⟨a1, b1, c1, d1, y1, w1', m1, f1, rfl⟩ := RE.shape r2
  have hd1 : d1 = 15 + k1 := by
    cases x1
    simp only [RE] at r2
    obtain ⟨v, hv, _⟩ := r2
    simp only [List.cons.injEq, Value.int.injEq, true_and, and_true] at hv
    simp only [isRel, decide_eq_true_eq] at h1
    omega
  subst hd1
  obtain ⟨K3, hK3⟩ : ∃ K3, K3 = (((K2.push (.row true 0 1 [.int .i64 0, .int .i64 0, .int .i64 0, .int .i64 0, .string ByteArray.empty, .slice none 0 0])).push (.row true 0 1 [.int .i64 0, .int .i64 0])).set K2.n (.row true 0 1 [.int .i64 a1, .int .i64 b1, .int .i64 c1, .int .i64 (15 + k1), .string y1, .slice w1' m1 f1])).set (K2.n + 1) (.row true 0 1 [.int .i64 0, .int .i64 0]) := ⟨_, rfl⟩
  have s3 : Same (fun _ => False) K2 K3 := by rw [hK3]; exact (((Same.push _ _ _).then_push _).then_set (by simp) (.inr (Nat.le_refl _)) _).then_set (by simp) (.inr (by omega)) _
  have n3 : K3.n = K2.n + 1 + 1 := by rw [hK3]; rfl
  have gA : K3.get K2.n = .row true 0 1 [.int .i64 a1, .int .i64 b1, .int .i64 c1, .int .i64 (15 + k1), .string y1, .slice w1' m1 f1] := by rw [hK3, gsn _ (by omega), Heap.get_set_self _ _ (by simp)]
  have gB : K3.get (K2.n + 1) = .row true 0 1 [.int .i64 0, .int .i64 0] := by rw [hK3, Heap.get_set_self _ _ (by simp)]
  obtain ⟨L2, lid2, tl2, K4, x2, e4, s4, h2, hl2, par2⟩ := chkR_run ch2 sz2 K3
  obtain ⟨cs2, K5, e5, s5, r5⟩ := par2 (K4.push (.row true 0 1 [.int .i64 0, .int .i64 0])) (Same.push _ _ _)
  have s45 : Same (fun _ => False) K3 K5 := (s4.then_push _).trans s5
  -- what the second one is
  obtain ⟨ga, gb, gc, gy, gid, gtl, g1, ia, ib, ic, iy, id3, tl3, ja, jb, jc, jy, id4, tl4, la, lb, lc, ly, lw, lm, lf, gz, rfl, hg2, hg3, hg4, hg1, hgz⟩ :
      ∃ (ga gb gc : Int) (gy : ByteArray) (gid gtl : Nat) (g1 : List Value) (ia ib ic : Int) (iy : ByteArray) (id3 tl3 : Nat) (ja jb jc : Int) (jy : ByteArray) (id4 tl4 : Nat) (la lb lc : Int) (ly : ByteArray) (lw : Option Addr) (lm lf : Nat) (gz : List Value),
        cs2 = [.int .i64 ga, .int .i64 gb, .int .i64 gc, .int .i64 22, .string gy, .slice (some ⟨gid, 0, none⟩) 2 2] ∧
        K5.get gid = .row true gtl 6 (g1 ++ [.int .i64 ia, .int .i64 ib, .int .i64 ic, .int .i64 21, .string iy, .slice (some ⟨id3, 0, none⟩) 2 2]) ∧
        K5.get id3 = .row true tl3 6 ([.int .i64 ja, .int .i64 jb, .int .i64 jc, .int .i64 23, .string jy, .slice (some ⟨id4, 0, none⟩) 1 1] ++ gz) ∧
        K5.get id4 = .row true tl4 6 [.int .i64 la, .int .i64 lb, .int .i64 lc, .int .i64 (15 + k1), .string ly, .slice lw lm lf] ∧ Six g1 ∧ Six gz := by
    unfold isG at h2
    split at h2
    · rename_i u1 u2 u3 o1 u4 p1 u5 u6 u7 o2 u8 v1 v2 v3 o3 v4 q1 q2 q3 o4 q4 q5 q6
      simp only [decide_eq_true_eq] at h2
      obtain ⟨rfl, rfl, rfl, rfl⟩ := h2
      simp only [RE] at r5
      obtain ⟨v, rfl, r5⟩ := r5
      rcases r5 with ⟨_, hf⟩ | ⟨gid, gtl, csg, rfl, _, hgg, hrr⟩
      · cases hf
      simp only [REs] at hrr
      obtain ⟨d1, d2, rfl, hd1, d3, d4, rfl, hd3, rfl⟩ := hrr
      simp only [RE] at hd3
      obtain ⟨v, rfl, hd3⟩ := hd3
      rcases hd3 with ⟨_, hf⟩ | ⟨id3, tl3, cs3, rfl, _, hg3, hr3⟩
      · cases hf
      simp only [REs] at hr3
      obtain ⟨d5, d6, rfl, hd5, d7, d8, rfl, hd7, rfl⟩ := hr3
      simp only [RE] at hd5
      obtain ⟨v, rfl, hd5⟩ := hd5
      rcases hd5 with ⟨_, hf⟩ | ⟨id4, tl4, cs4, rfl, _, hg4, hr4⟩
      · cases hf
      simp only [REs] at hr4
      obtain ⟨d9, d10, rfl, hd9, rfl⟩ := hr4
      obtain ⟨la, lb, lc, ld, ly, lw, lm, lf, rfl⟩ := RE.shape hd9
      have hld : ld = 15 + k1 := by
        simp only [RE] at hd9
        obtain ⟨v, hv, _⟩ := hd9
        simp only [List.cons.injEq, Value.int.injEq, true_and, and_true] at hv
        exact hv.2.2.2.1
      subst hld
      simp only [List.append_nil] at hgg hg3 hg4
      exact ⟨_, _, _, _, gid, gtl, d1, _, _, _, _, id3, tl3, _, _, _, _, id4, tl4, la, lb, lc, ly, lw, lm, lf, d7, rfl, hgg, hg3, hg4, RE.shape hd1, RE.shape hd7⟩
    · cases h2
  obtain ⟨xa, xb, xc, xd, xy, xw, xm, xf, rfl⟩ := hg1
  obtain ⟨za, zb', zc, zd, zy, zw, zm, zf, rfl⟩ := hgz
  simp only [List.cons_append, List.nil_append] at hg2 hg3
  obtain ⟨K6, hK6⟩ : ∃ K6, K6 = (((K5.push (.row true 0 1 [.int .i64 0, .int .i64 0, .int .i64 0, .int .i64 0, .string ByteArray.empty, .slice none 0 0])).push (.row true 0 1 [.int .i64 0, .int .i64 0])).set K5.n (.row true 0 1 [.int .i64 ga, .int .i64 gb, .int .i64 gc, .int .i64 22, .string gy, .slice (some ⟨gid, 0, none⟩) 2 2])).set (K5.n + 1) (.row true 0 1 [.int .i64 0, .int .i64 0]) := ⟨_, rfl⟩
  have s6 : Same (fun _ => False) K5 K6 := by rw [hK6]; exact (((Same.push _ _ _).then_push _).then_set (by simp) (.inr (Nat.le_refl _)) _).then_set (by simp) (.inr (by omega)) _
  have n6 : K6.n = K5.n + 1 + 1 := by rw [hK6]; rfl
  have gC : K6.get K5.n = .row true 0 1 [.int .i64 ga, .int .i64 gb, .int .i64 gc, .int .i64 22, .string gy, .slice (some ⟨gid, 0, none⟩) 2 2] := by rw [hK6, gsn _ (by omega), Heap.get_set_self _ _ (by simp)]
  have gD : K6.get (K5.n + 1) = .row true 0 1 [.int .i64 0, .int .i64 0] := by rw [hK6, Heap.get_set_self _ _ (by simp)]
  have gA6 := (s45.then0 s6).at gA (by simp) (fun h => h)
  have gB6 := (s45.then0 s6).at gB (by simp) (fun h => h)
  have hg26 := s6.at hg2 (by simp) (fun h => h)
  obtain ⟨K7, hK7⟩ : ∃ K7, K7 = K6.push (.row true 0 1 [.int .i64 ia, .int .i64 ib, .int .i64 ic, .int .i64 21, .string iy, .slice (some ⟨id3, 0, none⟩) 2 2]) := ⟨_, rfl⟩
  have s7 : Same (fun _ => False) K6 K7 := by rw [hK7]; exact Same.push _ _ _
  have gE : K7.get K6.n = .row true 0 1 [.int .i64 ia, .int .i64 ib, .int .i64 ic, .int .i64 21, .string iy, .slice (some ⟨id3, 0, none⟩) 2 2] := by rw [hK7]; exact Heap.get_push_self _ _
  have hg37 := (s6.then0 s7).at hg3 (by simp) (fun h => h)
  have hg47 := (s6.then0 s7).at hg4 (by simp) (fun h => h)
  have hw := wrap64 (15 + (k1 : Int)) (by omega) (by omega)
  rw [c_Rel, callB, bodyOf]
  simp [Try.f6, -build_eq, b_sgn]
  refine region_plan (by exact pl_rel2) ?_
  have f1 := fun x y => bin_cat2 x y ⟨#[117, 32]⟩ (sgn k1) (by have : (⟨#[117, 32]⟩ : ByteArray).size = 2 := rfl; omega)
  have f2 := fun x y => bin_cat2 x y (⟨#[117, 32]⟩ ++ sgn k1) ⟨#[32, 118, 32]⟩ (by rw [ByteArray.size_append]; have : (⟨#[117, 32]⟩ : ByteArray).size = 2 := rfl; have : (⟨#[32, 118, 32]⟩ : ByteArray).size = 3 := rfl; omega)
  have f3 := fun x y => bin_cat2 x y (⟨#[117, 32]⟩ ++ sgn k1 ++ ⟨#[32, 118, 32]⟩) (sgn k2) (by simp only [ByteArray.size_append]; have : (⟨#[117, 32]⟩ : ByteArray).size = 2 := rfl; have : (⟨#[32, 118, 32]⟩ : ByteArray).size = 3 := rfl; omega)
  have f4 := fun x y => bin_cat2 x y (⟨#[117, 32]⟩ ++ sgn k1 ++ ⟨#[32, 118, 32]⟩ ++ sgn k2) ⟨#[32, 119]⟩ (by simp only [ByteArray.size_append]; have : (⟨#[117, 32]⟩ : ByteArray).size = 2 := rfl; have : (⟨#[32, 118, 32]⟩ : ByteArray).size = 3 := rfl; have : (⟨#[32, 119]⟩ : ByteArray).size = 2 := rfl; omega)
  have f5 := fun x y => bin_cat2 x y ⟨#[117, 32, 111, 114, 32, 110, 111, 116, 32, 118, 32]⟩ (sgn k1) (by have : (⟨#[117, 32, 111, 114, 32, 110, 111, 116, 32, 118, 32]⟩ : ByteArray).size = 11 := rfl; omega)
  have f6 := fun x y => bin_cat2 x y (⟨#[117, 32, 111, 114, 32, 110, 111, 116, 32, 118, 32]⟩ ++ sgn k1) ⟨#[32, 49, 32, 97, 110, 100, 32, 119]⟩ (by simp only [ByteArray.size_append]; have : (⟨#[117, 32, 111, 114, 32, 110, 111, 116, 32, 118, 32]⟩ : ByteArray).size = 11 := rfl; have : (⟨#[32, 49, 32, 97, 110, 100, 32, 119]⟩ : ByteArray).size = 8 := rfl; omega)
  simp [ek1, ek2, show (k1 : Int) < 6 by omega, show (k2 : Int) < 6 by omega, show k1 < 6 by omega, show k2 < 6 by omega, sgn_get, f1, f2, f3, f4, conv_text2, -ByteArray.size_append]
  rw [← hK0]
  have n0 : K0.n = Heap.empty.n + 1 := by rw [hK0]; rfl
  simp only [relT1, n0] at e1
  simp [e1, e2, -ByteArray.size_append]
  rw [← hK3]
  simp [f5, f6, conv_text2, -ByteArray.size_append]
  simp only [relT2] at e4
  simp [e4, e5, -ByteArray.size_append]
  rw [← hK6]
  refine region_plan (by exact pl_rel7) ?_
  simp [gA6, gB6, gC, gD, ek1, hw, hg26]
  rw [← hK7]
  refine region_plan (by exact pl_rel10) ?_
  simp [gE, hg37, hg47, ek1, hw, aw]
end Go.Vm.Ex
