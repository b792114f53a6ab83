/- What is proved: the program's reader of expressions: a row of signs. -/
import Derived.Test.YtblmgcfigcpoaaaExprW3
import Derived.Test.YtblmgcfigcpoaaaGoes
namespace Go.Vm
variable {P : Program} {E : Hooks}
theorem ends_seq {a b : Code} {s : St} {H : Heap} {Q : QA} (J : List Value → Heap → Prop) (h1 : Ends ((run P E).code a s H) fun e s H => e = .normal ∧ s.ds = [] ∧ J s.t H)
    (h2 : ∀ t H, J t H → Ends ((run P E).code b ⟨Fr t [], []⟩ H) Q) : Ends ((run P E).code (.seq a b) s H) Q := by
  obtain ⟨e, ⟨t, ds⟩, H', e1, rfl, e2, hJ⟩ := h1
  simp only at e2
  subst e2
  obtain ⟨e', s', H2, e3, h3⟩ := h2 t H' hJ
  rw [Fr_nil] at e3
  refine ⟨e', s', H2, ?_, h3⟩
  rw [run_code]
  show (match (run P E).code a s H with | some (.normal, s', H') => (run P E).code b s' H' | x => x) = _
  rw [e1]
  exact e3
theorem code_skip_seq (x : Code) (hx : x = .skip ∨ ∃ l, x = .label l) (C : Code) (s : St) (H : Heap) : (run P E).code (.seq x C) s H = (run P E).code C s H := by
  have e : (run P E).code x s H = some (.normal, s, H) := by
    rcases hx with rfl | ⟨l, rfl⟩ <;> (rw [run_code]; rfl)
  rw [run_code]
  show (match (run P E).code x s H with | some (.normal, s', H') => (run P E).code C s' H' | x => x) = _
  rw [e]
theorem ends_back {a C : Code} {l : Nat} (hn : findLabel a l = none) {Q : QA} {I : Nat → List Value → Heap → Prop} (m0 : Nat) {s : St} {H : Heap}
    (step : ∀ m t H, I m t H → Ends ((run P E).code C ⟨Fr t [], []⟩ H) (backQ l I m Q)) (first : Ends ((run P E).code a s H) fun e s H => e = .normal ∧ s.ds = [] ∧ I m0 s.t H) :
    Ends ((run P E).code (.scope (.seq a (.seq (.label l) C))) s H) Q := by
  have hf : findLabel (.seq a (.seq (.label l) C)) l = some (.seq .skip C) := by simp [findLabel, hn]
  refine ends_scope (I := I) (Q := Q) hf (fun m t H hI => ?_) m0 (ends_seq (Q := backQ l I m0 Q) _ first fun t H hI => ?_)
  · rw [code_skip_seq _ (.inl rfl)]; exact step m t H hI
  · rw [code_skip_seq _ (.inr ⟨_, rfl⟩)]; exact step m0 t H hI
end Go.Vm
namespace Go.Vm.Ex
open Go Go.Proofs Go.Vm.Parse
set_option maxRecDepth 100000
set_option maxHeartbeats 4000000
set_option linter.unusedSimpArgs false
set_option linter.unusedVariables false
attribute [local simp] repCells_succ writeAt rd_Fr toList_beq gpe gpn spe gse gsn ne_r0 ne_l0 le_s0 ne_r1 ne_l1 lt_s1 le_s1 ne_r2 ne_l2 lt_s2 le_s2 ne_r3 ne_l3 lt_s3 le_s3 ne_r4 ne_l4 lt_s4 le_s4 ne_r5 ne_l5 lt_s5 le_s5 ne_r6 ne_l6 lt_s6 le_s6 ne_r7 ne_l7 lt_s7 le_s7
theorem pl_xrow : planOf Try.prog (drawN Try.f28 0) = some [(some (0, 2)), (some (0, 2)), (some (0, 2)), (some (0, 1)), none, none, none, none, none] := by decide +kernel
/-- Where a row's loop stands. -/
def XRowI (r lid : Nat) (L : List Tk) (k lv : Int) (f : FuncId) (sid oid : Nat) (H : Heap) (e : Ex) (s' : PS) (n m : Nat) (t : List Value) (K : Heap) : Prop :=
  m ≤ n ∧ ∃ (x : Ex) (s1 : PS) (cs : List Value) (X : Nat), xP L m (.loop k lv x) s1 = some (e, s') ∧ t.length = 47 ∧ rd t 0 = .pointer (some ⟨r, 0, none⟩) ∧ rd t 1 = .func (.func f) #[.pointer (some ⟨r, 0, none⟩)] #[] ∧ rd t 2 = .bool (decide (k = 4)) ∧
    rd t 3 = .slice (some ⟨sid, 0, none⟩) (rowL k).length (rowL k).length ∧ rd t 4 = .slice (some ⟨oid, 0, none⟩) (rowL k).length (rowL k).length ∧ rd t 10 = .pointer (some ⟨H.n, 0, none⟩) ∧ rd t 11 = .pointer (some ⟨X, 0, none⟩) ∧
    RQ K r lid L s1 lv ∧ Same (· = r) (H.push (.row true 0 1 z6)) K ∧ H.n < X ∧ X < K.n ∧ K.get X = .row true 0 1 cs ∧ Six cs ∧ (s1.c = 0 → RE K (fun i => H.n + 1 ≤ i ∧ i ≠ X) x cs)
section
variable {E : Hooks} (hE : Plain E)
include hE
theorem row_core {f : FuncId} {n : Nat} {H : Heap} {r lid sid oid t1 t2 : Nat} {L : List Tk} {s s' : PS} {k lv : Int} {e : Ex} (hf : ∀ j, j ≤ n → Reads E L f (.row (k + 1)) j) (h : RP H r lid L s lv) (hc : s.c = 0) (h0l : 0 ≤ lv) (hlv : lv ≤ 24)
    (hk : k ≠ 7 ∧ k ≠ 3) (hlen : (rowL k).length ≤ 100) (gs : H.get sid = .row true t1 1 ((rowL k).map fun x => .string x.1)) (go : H.get oid = .row true t2 1 ((rowL k).map fun x => .int .i64 x.2)) (hs : sid ≠ r) (ho : oid ≠ r)
    (hx : xP L (n + 1) (.row k lv) s = some (e, s')) :
    Gives ((run Try.prog E).call 28 [.pointer (some ⟨r, 0, none⟩), .func (.func f) #[.pointer (some ⟨r, 0, none⟩)] #[], .bool (decide (k = 4)), .slice (some ⟨sid, 0, none⟩) (rowL k).length (rowL k).length, .slice (some ⟨oid, 0, none⟩) (rowL k).length (rowL k).length] H) (RetX H r lid L e s' lv) := by
  have hr := h.lt
  have hl := h.lid_lt
  have hsl := Heap.lt_of_get gs (by simp)
  have hol := Heap.lt_of_get go (by simp)
  have hsm := h.small
  rw [xP, if_neg (by simpa using hc), if_neg hk.1, if_neg hk.2] at hx
  simp only [Option.bind_eq_some_iff] at hx
  obtain ⟨⟨x0, s0⟩, hx1, hx2⟩ := hx
  rw [k_row hE, callB, bodyOf]
  simp [Try.f28]
  refine ends_back (I := XRowI r lid L k lv f sid oid H e s' n) rfl n ?_ ?_
  · rintro m t K ⟨hmn, x, s1, cs, X, hxl, ht, u0, u1, u2, u3, u4, u10, u11, ⟨s2, h2, hc2, ha2, hs2⟩, kS, hX, hXn, gX, ⟨a, b, c, d, y, b1, m1, c1, rfl⟩, rX⟩
    obtain ⟨K1, e1, k1⟩ := tok_run hE h2
    have h3 := (h2.same k1).same (Same.push (fun _ => False) _ (.row true 0 1 (tok L s2.p).cells))
    have n1 := k1.n
    have nS := kS.n
    simp at nS
    have kA : Same (fun _ => False) K (K1.push (.row true 0 1 (tok L s2.p).cells)) := k1.then_push _
    have gs2 : (K1.push (.row true 0 1 (tok L s2.p).cells)).get sid = _ := kA.get sid (by omega) (fun h => h) |>.trans ((kS.get sid (by simp; omega) hs).trans ((Heap.get_push _ _ _).trans ((if_neg (by omega)).trans gs)))
    have go2 : (K1.push (.row true 0 1 (tok L s2.p).cells)).get oid = _ := kA.get oid (by omega) (fun h => h) |>.trans ((kS.get oid (by simp; omega) ho).trans ((Heap.get_push _ _ _).trans ((if_neg (by omega)).trans go)))
    obtain ⟨K2, e2, k2⟩ := op_run2 hE (tok L s2.p) (rowL k) hlen gs2 go2
    have h4 := h3.same k2
    have n2 := k2.n
    simp at n2
    have kB := kA.then0 k2
    have gt : K2.get K1.n = .row true 0 1 (tok L s2.p).cells := k2.at (Heap.get_push_self _ _) (by simp) (fun h => h)
    have gX2 : K2.get X = _ := kB.at gX (by simp) (fun h => h)
    have kS2 : Same (· = r) (H.push (.row true 0 1 z6)) K2 := kS.trans (Same.none kB)
    have gN2 : K2.get H.n = .row true 0 1 z6 := kS2.at (Heap.get_push_self _ _) (by simp) (by omega)
    have hbad := bad_run2 hE h4
    have hobj := h4.obj
    cases m with
    | zero => cases hxl
    | succ m =>
    rw [xP] at hxl
    by_cases hstop : opP L s1 k = 0
    · rw [if_pos hstop] at hxl
      simp only [Option.some.injEq, Prod.mk.injEq] at hxl
      obtain ⟨rfl, rfl⟩ := hxl
      have k5 : Same (fun i => i = H.n) K2 (K2.set H.n (.row true 0 1 [.int .i64 a, .int .i64 b, .int .i64 c, .int .i64 d, .string y, .slice b1 m1 c1])) := Same.set (X := fun i => i = H.n) K2 (by omega) rfl _
      have fin : RetX H r lid L x s1 lv (.val (.agg ⟨[.int .i64 a, .int .i64 b, .int .i64 c, .int .i64 d, .string y, .slice b1 m1 c1]⟩)) (K2.set H.n (.row true 0 1 [.int .i64 a, .int .i64 b, .int .i64 c, .int .i64 d, .string y, .slice b1 m1 c1])) := by
        refine ⟨_, rfl, ⟨_, _, _, _, _, _, _, _, rfl⟩, ((Same.push _ _ _).trans kS2).then k5 (fun i hi => .inr (by omega)), ⟨s2, h4.keep k5 (by omega) (by omega), hc2, ha2, hs2⟩, fun hc1 => ?_⟩
        exact RE.move ((Same.none (X := fun i => i = H.n) kB).trans k5) (fun i hi _ => ⟨by omega, by omega⟩) _ _ (rX hc1)
      have hop : opS (tok L s2.p) (rowL k) = 0 ∨ ¬ s2.c = 0 := by
        by_cases hc1 : s1.c = 0
        · rw [hs2 hc1, ← opP_row hc1]; exact .inl hstop
        · exact .inr (by rw [hc2]; exact hc1)
      generalize opS (tok L s2.p) (rowL k) = q at *
      generalize tok L s2.p = tk at *
      simp only [Tk.v, Tk.cells, z6] at *
      simp [ht, u0, u1, u2, u3, u4, u10, u11, e1, e2, gX2, gN2, show H.n < K2.n by omega]
      by_cases hq : q = 0
      · simp [hq, ht, u0, u1, u2, u3, u4, u10, u11, e1, e2, gX2, gN2, show H.n < K2.n by omega]
        exact fin
      · have hb : ¬ s2.c = 0 := hop.resolve_left hq
        simp [hq, hbad, hb, ht, u0, u1, u2, u3, u4, u10, u11, e1, e2, gX2, gN2, show H.n < K2.n by omega]
        exact fin
    · rw [if_neg hstop] at hxl
      simp only [Option.bind_eq_some_iff] at hxl
      obtain ⟨⟨x2, s3⟩, hxa, hxb⟩ := hxl
      have hop := opP_lt hstop
      have hc1 := hop.1
      obtain rfl : s2 = s1 := hs2 hc1
      have hop2 : opS (tok L s2.p) (rowL k) = opP L s2 k := (opP_row hc1 k).symm
      have h5 := h4.turn s2.on lv (by show s2.p + 1 ≤ _; have := hop.2; omega)
      have k5 : Same (· = r) _ _ := Same.set (X := (· = r)) K2 h4.lt rfl (.row true 0 1 (prs lid L.length s2.on lv))
      obtain ⟨o, K3, e3, cs3, rfl, ⟨a2, b2, c2, d2, y2, b12, m12, c12, rfl⟩, k6, q6, r6⟩ := hf m (by omega) _ r lid s2.on lv x2 s3 h5 hc1 h0l hlv hxa
      have n3 := (k5.trans k6).n
      have kS3 : Same (· = r) (H.push (.row true 0 1 z6)) K3 := kS2.trans (k5.trans k6)
      have gX3 : K3.get X = _ := (k5.trans k6).at gX2 (by simp) (by omega)
      have gN3 : K3.get H.n = .row true 0 1 z6 := kS3.at (Heap.get_push_self _ _) (by simp) (by omega)
      have gt5 : (K2.set r (.row true 0 1 (prs lid L.length s2.on lv))).get K1.n = .row true 0 1 (tok L s2.p).cells := k5.at gt (by simp) (by have := h2.lt; omega)
      have gX5 : (K2.set r (.row true 0 1 (prs lid L.length s2.on lv))).get X = _ := k5.at gX2 (by simp) (by omega)
      have gt3 : K3.get K1.n = .row true 0 1 (tok L s2.p).cells := k6.at gt5 (by simp) (by have := h2.lt; omega)
      have hw := wrap64 ((s2.p : Int) + 1) (by omega) (by have := hop.2; omega)
      have k7 : Same (fun _ => False) K3 (K3.push (.row true 0 6 ([.int .i64 a, .int .i64 b, .int .i64 c, .int .i64 d, .string y, .slice b1 m1 c1] ++ [.int .i64 a2, .int .i64 b2, .int .i64 c2, .int .i64 d2, .string y2, .slice b12 m12 c12]))) := Same.push _ _ _
      have k8 : Same (fun i => i = X) _ _ := Same.set (X := fun i => i = X) (K3.push (.row true 0 6 ([.int .i64 a, .int .i64 b, .int .i64 c, .int .i64 d, .string y, .slice b1 m1 c1] ++ [.int .i64 a2, .int .i64 b2, .int .i64 c2, .int .i64 d2, .string y2, .slice b12 m12 c12]))) (by simp; omega) rfl
        (.row true 0 1 [.int .i64 6, .int .i64 (tok L s2.p).at_, .int .i64 0, .int .i64 (opP L s2 k), .string ByteArray.empty, .slice (some ⟨K3.n, 0, none⟩) 2 2])
      have q8 := (q6.keep k7 (fun h => h) (fun h => h)).keep k8 (by omega) (by omega)
      have kS8 := (kS3.trans (Same.none k7)).then k8 (fun i hi => .inr (by simp; omega))
      have r8 : s3.c = 0 → RE ((K3.push (.row true 0 6 ([.int .i64 a, .int .i64 b, .int .i64 c, .int .i64 d, .string y, .slice b1 m1 c1] ++ [.int .i64 a2, .int .i64 b2, .int .i64 c2, .int .i64 d2, .string y2, .slice b12 m12 c12]))).set X (.row true 0 1 [.int .i64 6, .int .i64 (tok L s2.p).at_, .int .i64 0, .int .i64 (opP L s2 k), .string ByteArray.empty, .slice (some ⟨K3.n, 0, none⟩) 2 2]))
          (fun i => H.n + 1 ≤ i ∧ i ≠ X) (.mk 6 (tok L s2.p).at_ 0 (opP L s2 k) ByteArray.empty [x, x2]) [.int .i64 6, .int .i64 (tok L s2.p).at_, .int .i64 0, .int .i64 (opP L s2 k), .string ByteArray.empty, .slice (some ⟨K3.n, 0, none⟩) 2 2] := fun hc3 => by
        have rx := RE.move (((Same.none kB).trans (k5.trans k6)).trans (Same.none k7)) (S' := fun i => H.n + 1 ≤ i ∧ i ≠ X) (fun i hi _ => ⟨hi, by omega⟩) _ _ (rX hc1)
        have rx2 := RE.move k7 (S' := fun i => H.n + 1 ≤ i ∧ i ≠ X) (fun i hi _ => ⟨⟨by simp at hi; omega, by simp at hi; omega⟩, fun h => h⟩) _ _ (r6 hc3)
        have rG := RE.parts 6 (tok L s2.p).at_ 0 (opP L s2 k) ByteArray.empty (S := fun i => H.n + 1 ≤ i ∧ i ≠ X) (id := K3.n) ⟨by omega, by omega⟩ (Heap.get_push_self _ _) (REs.two rx rx2)
        exact RE.move k8 (fun i hi _ => ⟨hi, hi.2⟩) _ _ rG
      have gX8 : ((K3.push (.row true 0 6 ([.int .i64 a, .int .i64 b, .int .i64 c, .int .i64 d, .string y, .slice b1 m1 c1] ++ [.int .i64 a2, .int .i64 b2, .int .i64 c2, .int .i64 d2, .string y2, .slice b12 m12 c12]))).set X (.row true 0 1 [.int .i64 6, .int .i64 (tok L s2.p).at_, .int .i64 0, .int .i64 (opP L s2 k), .string ByteArray.empty, .slice (some ⟨K3.n, 0, none⟩) 2 2])).get X = _ := Heap.get_set_self _ _ (by simp; omega)
      have gN8 : ((K3.push (.row true 0 6 ([.int .i64 a, .int .i64 b, .int .i64 c, .int .i64 d, .string y, .slice b1 m1 c1] ++ [.int .i64 a2, .int .i64 b2, .int .i64 c2, .int .i64 d2, .string y2, .slice b12 m12 c12]))).set X (.row true 0 1 [.int .i64 6, .int .i64 (tok L s2.p).at_, .int .i64 0, .int .i64 (opP L s2 k), .string ByteArray.empty, .slice (some ⟨K3.n, 0, none⟩) 2 2])).get H.n = .row true 0 1 z6 := kS8.at (Heap.get_push_self _ _) (by simp) (by omega)
      have n8 : ((K3.push (.row true 0 6 ([.int .i64 a, .int .i64 b, .int .i64 c, .int .i64 d, .string y, .slice b1 m1 c1] ++ [.int .i64 a2, .int .i64 b2, .int .i64 c2, .int .i64 d2, .string y2, .slice b12 m12 c12]))).set X (.row true 0 1 [.int .i64 6, .int .i64 (tok L s2.p).at_, .int .i64 0, .int .i64 (opP L s2 k), .string ByteArray.empty, .slice (some ⟨K3.n, 0, none⟩) 2 2])).n = K3.n + 1 := rfl
      rw [hop2] at e2
      generalize hoq : opP L s2 k = q at *
      generalize tok L s2.p = tk at *
      simp only [Tk.v, Tk.cells, z6, prs, PS.on, List.cons_append, List.nil_append] at *
      simp only [hc1, Int.natCast_add, Int.natCast_one] at e3 gt5 gX5
      simp [ht, u0, u1, u2, u3, u4, u10, u11, e1, e2, gX2, gN2, show H.n < K2.n by omega, hstop, hbad, hc1, hobj, hw]
      refine region_plan (by exact pl_xrow) ?_
      generalize hK5 : K2.set r _ = K5 at *
      simp [ht, u0, u1, u2, u3, u4, u10, u11, e1, e2, gX2, gN2, gt5, gX5, e3, gX3, gt3, show X < K3.n by omega, show ¬ X = K3.n by omega, show ¬ K1.n = K3.n by omega]
      generalize hK8 : (K3.push _).set X _ = K8 at *
      by_cases h4 : k = 4
      · rw [if_pos h4] at hxb
        simp only [Option.some.injEq, Prod.mk.injEq] at hxb
        obtain ⟨rfl, rfl⟩ := hxb
        have k9 : Same (fun i => i = H.n) K8 (K8.set H.n (.row true 0 1 [.int .i64 6, .int .i64 tk.at_, .int .i64 0, .int .i64 q, .string ByteArray.empty, .slice (some ⟨K3.n, 0, none⟩) 2 2])) := Same.set (X := fun i => i = H.n) K8 (by omega) rfl _
        simp [h4, ht, u0, u1, u2, u3, u4, u10, u11, gX8, gN8, show H.n < K8.n by omega]
        refine ⟨_, rfl, ⟨_, _, _, _, _, _, _, _, rfl⟩, ((Same.push _ _ _).trans kS8).then k9 (fun i hi => .inr (by omega)), q8.keep k9 (by omega) (by omega), fun hc3 => ?_⟩
        exact RE.move k9 (fun i hi _ => ⟨by omega, by omega⟩) _ _ (r8 hc3)
      · rw [if_neg h4] at hxb
        simp [h4, ht, u0, u1, u2, u3, u4, u10, u11, gX8, gN8, show H.n < K8.n by omega]
        refine ⟨m, by omega, by omega, _, s3, _, X, hxb, by simp [ht], by simp [ht, u0], by simp [ht, u1], by simp [ht, u2, h4], by simp [ht, u3], by simp [ht, u4], by simp [ht, u10], by simp [ht, u11], q8, kS8, hX, by omega, gX8, ⟨_, _, _, _, _, _, _, _, rfl⟩, r8⟩
  · have h0 := h.same (Same.push (fun _ => False) _ (.row true 0 1 z6))
    obtain ⟨o, K1, e1, cs, rfl, ⟨a, b, c, d, y, b1, m1, c1, rfl⟩, k1, q1, r1⟩ := hf n (Nat.le_refl n) _ r lid s lv x0 s0 h0 hc h0l hlv hx1
    have n1 := k1.n
    simp at n1
    have e1' := e1
    simp only [z6] at e1'
    simp [e1']
    refine ⟨Nat.le_refl n, x0, s0, _, K1.n, hx2, by simp [len_Bs], by simp, by simp, by simp, by simp, by simp, by simp, by simp, q1.keep (Same.push (fun _ => False) _ _) (fun h => h) (fun h => h), k1.then_push _, by omega, by simp, Heap.get_push_self _ _, ⟨_, _, _, _, _, _, _, _, rfl⟩, fun hc0 => ?_⟩
    exact RE.move (Same.push (fun _ => False) _ _) (fun i hi hlt => ⟨⟨by simp at hi; omega, by omega⟩, fun h => h⟩) _ _ (r1 hc0)
end
end Go.Vm.Ex
