/- What is proved: the program's reader of expressions: signs ahead, names, the innermost. -/
import Derived.Test.YtblmgcfigcpoaaaExprW5
namespace Go.Vm.Ex
open Go Go.Proofs Go.Vm.Parse
set_option maxRecDepth 100000
set_option maxHeartbeats 4000000
set_option linter.unusedSimpArgs false
set_option linter.unusedVariables false
attribute [local simp] repCells_succ writeAt rd_Fr toList_beq gpe gpn spe gse gsn ne_r0 ne_l0 le_s0 ne_r1 ne_l1 lt_s1 le_s1 ne_r2 ne_l2 lt_s2 le_s2 ne_r3 ne_l3 lt_s3 le_s3 ne_r4 ne_l4 lt_s4 le_s4 ne_r5 ne_l5 lt_s5 le_s5 ne_r6 ne_l6 lt_s6 le_s6 ne_r7 ne_l7 lt_s7 le_s7
theorem opens_hi {L : List Tk} {s : PS} {lv : Int} (hc : s.c = 0) (h : 24 ≤ lv) : opensS L s (lv + 1) = { s with c := 15, a := (tok L s.p).at_ } := by
  unfold opensS faultS
  rw [if_pos (by omega), if_pos hc]
theorem opens_lo {L : List Tk} {s : PS} {lv : Int} (h : lv < 24) : opensS L s (lv + 1) = s := by
  unfold opensS
  rw [if_neg (by omega)]
section
variable {E : Hooks} (hE : Plain E)
include hE
/-- A level deeper, or a fault. -/
theorem deeper_any {f : FuncId} {cmd : Int → XC} {n : Nat} {H : Heap} {r lid : Nat} {L : List Tk} {s s' : PS} {lv : Int} {e : Ex} (hf : Reads E L f cmd n) (h : RP H r lid L s lv) (hc : s.c = 0) (h0l : 0 ≤ lv) (hp : s.p < L.length)
    (hx : (if (opensS L s (lv + 1)).c ≠ 0 then some (Ex.zero, opensS L s (lv + 1)) else xP L n (cmd (lv + 1)) (opensS L s (lv + 1)).on) = some (e, s')) :
    Gives ((run Try.prog E).call 45 [.pointer (some ⟨r, 0, none⟩), .func (.func f) #[.pointer (some ⟨r, 0, none⟩)] #[]] H) (RetX H r lid L e s' lv) := by
  rcases Int.lt_or_le lv 24 with hlv | hlv
  · rw [opens_lo hlv, if_neg (by simpa using hc)] at hx
    exact deeper_run hE hf h hc h0l hlv hp hx
  · rw [opens_hi hc hlv, if_pos (by simp)] at hx
    simp only [Option.some.injEq, Prod.mk.injEq] at hx
    obtain ⟨rfl, rfl⟩ := hx
    obtain ⟨o, H', e1, rfl, k, q⟩ := deeper_no hE (f := f) h hc hlv
    exact ⟨_, _, e1, _, rfl, six_z, k, q.q, fun h => by simp at h⟩
theorem un_reads {f : FuncId} {cmd : Int → XC} {n : Nat} {H : Heap} {r lid : Nat} {L : List Tk} {s s' : PS} {lv : Int} {e : Ex} (k : Int) (hf : Reads E L f cmd n) (h : RP H r lid L s lv) (hc : s.c = 0) (h0l : 0 ≤ lv) (hp : s.p < L.length)
    (hx : (if (opensS L s (lv + 1)).c ≠ 0 then some (Ex.zero, opensS L s (lv + 1)) else (xP L n (cmd (lv + 1)) (opensS L s (lv + 1)).on).map fun q => (.mk 5 (tok L s.p).at_ 0 k ByteArray.empty [q.1], q.2)) = some (e, s')) :
    Gives ((run Try.prog E).call 43 [.pointer (some ⟨r, 0, none⟩), .int .i64 k, .func (.func f) #[.pointer (some ⟨r, 0, none⟩)] #[]] H) (RetX H r lid L e s' lv) := by
  by_cases ho : (opensS L s (lv + 1)).c ≠ 0
  · rw [if_pos ho] at hx
    simp only [Option.some.injEq, Prod.mk.injEq] at hx
    obtain ⟨rfl, rfl⟩ := hx
    exact un_core hE k h (fun K hK => deeper_any hE hf hK hc h0l hp (by rw [if_pos ho])) (fun h => absurd h ho)
  · rw [if_neg ho] at hx
    simp only [Option.map_eq_some_iff] at hx
    obtain ⟨⟨e0, s0⟩, h1, h2⟩ := hx
    simp only [Prod.mk.injEq] at h2
    obtain ⟨rfl, rfl⟩ := h2
    exact un_core hE k h (fun K hK => deeper_any hE hf hK hc h0l hp (by rw [if_neg ho]; exact h1)) (fun _ => rfl)
theorem neg_reads {L : List Tk} {n : Nat} (hrel : Reads E L 44 (.row 4) n) (hneg : Reads E L 37 (.row 3) n) : Reads E L 37 (.row 3) (n + 1) := by
  intro H r lid s lv e s' h hc h0l hlv hx
  have hr := h.lt
  have hl := h.lid_lt
  have h0 := h.same (Same.push (fun _ => False) _ (.row true 0 1 z6))
  obtain ⟨H1, e1, k1⟩ := tok_run hE h0
  have h1 := h0.same k1
  have e2 := is_run2 hE (tok L s.p) tNot H1
  have h2 := h1.same (Same.push (fun _ => False) _ (.row true 0 1 (tok L s.p).cells))
  have kS : Same (fun _ => False) (H.push (.row true 0 1 z6)) (H1.push (.row true 0 1 (tok L s.p).cells)) := k1.then_push _
  rw [xP, if_neg (by simpa using hc), if_neg (by omega), if_pos rfl, isT_P hc] at hx
  by_cases hi : isT (tok L s.p) tNot = true
  · rw [if_neg (by rw [hi]; simp)] at hx
    obtain ⟨o, K', e3, hR⟩ := un_reads hE 23 hneg h2 hc h0l (isT_lt hi) hx
    obtain ⟨cs, rfl, ⟨a, b, c, d, y, b1, m1, c1, rfl⟩, g, hn, fin⟩ := RetX.out hE hr hl kS hR
    rw [k_neg hE, callB, bodyOf]
    rw [hi] at e2
    simp only [tNot] at e2
    generalize tok L s.p = tk at *
    simp only [Tk.v, Tk.cells, z6] at *
    simp [Try.f37, e1, e2, e3, g, hn]
    exact fin
  · have hi' : isT (tok L s.p) tNot = false := by simpa using hi
    rw [if_pos hi'] at hx
    obtain ⟨o, K', e3, hR⟩ := hrel _ r lid s lv e s' h2 hc h0l hlv hx
    obtain ⟨cs, rfl, ⟨a, b, c, d, y, b1, m1, c1, rfl⟩, g, hn, fin⟩ := RetX.out hE hr hl kS hR
    rw [k_neg hE, callB, bodyOf]
    rw [hi'] at e2
    simp only [tNot] at e2
    generalize tok L s.p = tk at *
    simp only [Tk.v, Tk.cells, z6] at *
    simp [Try.f37, e1, e2, e3, g, hn]
    exact fin
theorem name_reads {L : List Tk} {n : Nat} (hex : ∀ j, j < n → Reads E L 22 (.row 1) j) {H : Heap} {r lid : Nat} {s s' : PS} {lv : Int} {e : Ex} (h : RP H r lid L s lv) (hc : s.c = 0) (h0l : 0 ≤ lv) (hk : (tok L s.p).kind = 1)
    (hx : (if isP L s.on (b1 91) = false then some (Ex.mk 3 (tok L s.p).at_ 0 0 (tok L s.p).text [], s.on) else (xP L n (.index lv) s.on).map fun q => (.mk 4 (tok L s.p).at_ 0 0 (tok L s.p).text [q.1], q.2)) = some (e, s')) :
    Gives ((run Try.prog E).call 51 [.pointer (some ⟨r, 0, none⟩), (tok L s.p).v] H) (RetX H r lid L e s' lv) := by
  have hr := h.lt
  have hl := h.lid_lt
  have hsm := h.small
  have hp : s.p < L.length := tok_ge_kind (by omega)
  have kA : Same (fun _ => False) H ((H.push (.row true 0 1 (tok L s.p).cells)).push (.row true 0 1 z6)) := (Same.push _ _ _).then_push _
  have h0 := h.same kA
  have hobj := h0.obj
  have h1 := h0.turn s.on lv (by show s.p + 1 ≤ _; omega)
  have kB : Same (· = r) ((H.push (.row true 0 1 (tok L s.p).cells)).push (.row true 0 1 z6)) _ := Same.set (X := (· = r)) _ h0.lt rfl (.row true 0 1 (prs lid L.length s.on lv))
  obtain ⟨H1, e1, k1⟩ := tok_run hE h1
  have h2 := h1.same k1
  have e2 := is_run2 hE (tok L s.on.p) (b1 91) H1
  have h3 := h2.same (Same.push (fun _ => False) _ (.row true 0 1 (tok L s.on.p).cells))
  have n1 := k1.n
  simp at n1
  have kC : Same (· = r) ((H.push (.row true 0 1 (tok L s.p).cells)).push (.row true 0 1 z6)) (H1.push (.row true 0 1 (tok L s.on.p).cells)) := (kB.trans (Same.none k1)).then_push _
  have gt : (H1.push (.row true 0 1 (tok L s.on.p).cells)).get H.n = .row true 0 1 (tok L s.p).cells := kC.at (by rw [Heap.get_push, if_neg (by simp), Heap.get_push_self]) (by simp) (by omega)
  have gz : (H1.push (.row true 0 1 (tok L s.on.p).cells)).get (H.n + 1) = .row true 0 1 z6 := kC.at (by exact Heap.get_push_self _ _) (by simp) (by omega)
  have hw := wrap64 ((s.p : Int) + 1) (by omega) (by omega)
  rw [isT_P (s := s.on) hc] at hx
  by_cases hi : isT (tok L s.on.p) (b1 91) = true
  · rw [if_neg (by rw [hi]; simp)] at hx
    simp only [Option.map_eq_some_iff] at hx
    obtain ⟨⟨e0, s0⟩, hx1, hx2⟩ := hx
    simp only [Prod.mk.injEq] at hx2
    obtain ⟨rfl, rfl⟩ := hx2
    have hp2 := isT_lt hi
    -- what the index reads
    obtain ⟨j, q, hj, hq, hs0⟩ : ∃ j q, j < n ∧ (if (opensS L s.on (lv + 1)).c ≠ 0 then some (Ex.zero, opensS L s.on (lv + 1)) else xP L j (.row 1 (lv + 1)) (opensS L s.on (lv + 1)).on) = some (e0, q) ∧ s0 = mustS L q (b1 93) := by
      cases n with
      | zero => cases hx1
      | succ j =>
        rw [xP, isT_P (s := s.on) hc, if_neg (by rw [hi]; simp)] at hx1
        by_cases ho : (opensS L s.on (lv + 1)).c ≠ 0
        · rw [if_pos ho] at hx1
          simp only [Option.some.injEq, Prod.mk.injEq] at hx1
          obtain ⟨rfl, rfl⟩ := hx1
          refine ⟨j, _, Nat.lt_succ_self j, by rw [if_pos ho], ?_⟩
          unfold mustS
          rw [if_neg (by unfold isP; simp [ho])]
        · rw [if_neg ho] at hx1
          simp only [Option.map_eq_some_iff, Prod.mk.injEq] at hx1
          obtain ⟨⟨e1, q⟩, h1, rfl, rfl⟩ := hx1
          exact ⟨j, q, Nat.lt_succ_self j, by rw [if_neg ho]; exact h1, rfl⟩
    subst hs0
    obtain ⟨o, K, e3, cs, rfl, ⟨a, b, c, d, y, b1', m1, c1, rfl⟩, k3, q3, r3⟩ := deeper_any hE (hex j hj) h3 hc h0l hp2 hq
    have n3 := k3.n
    simp at n3
    have q4 := q3.keep (Same.push (fun _ => False) _ (.row true 0 1 [.int .i64 a, .int .i64 b, .int .i64 c, .int .i64 d, .string y, .slice b1' m1 c1])) (fun h => h) (fun h => h)
    obtain ⟨K2, e5, k5, q5⟩ := need_run hE q4 (b1 93)
    have n5 := k5.n
    simp at n5
    have g5 : K2.get K.n = .row true 0 1 [.int .i64 a, .int .i64 b, .int .i64 c, .int .i64 d, .string y, .slice b1' m1 c1] := k5.at (Heap.get_push_self _ _) (by simp) (by omega)
    have kD : Same (· = r) (H1.push (.row true 0 1 (tok L s.on.p).cells)) K2 := (k3.then_push _).trans k5
    have gt2 : K2.get H.n = .row true 0 1 (tok L s.p).cells := kD.at gt (by simp) (by omega)
    have gz2 : K2.get (H.n + 1) = .row true 0 1 z6 := kD.at gz (by simp) (by omega)
    have k6 : Same (fun _ => False) K2 (K2.push (.row true 0 6 [.int .i64 a, .int .i64 b, .int .i64 c, .int .i64 d, .string y, .slice b1' m1 c1])) := Same.push _ _ _
    have k7 : Same (fun i => i = H.n + 1) _ _ := Same.set (X := fun i => i = H.n + 1) (K2.push (.row true 0 6 [.int .i64 a, .int .i64 b, .int .i64 c, .int .i64 d, .string y, .slice b1' m1 c1])) (by simp; omega) rfl (.row true 0 1 [.int .i64 4, .int .i64 (tok L s.p).at_, .int .i64 0, .int .i64 0, .string (tok L s.p).text, .slice (some ⟨K2.n, 0, none⟩) 1 1])
    have fin : RetX H r lid L (.mk 4 (tok L s.p).at_ 0 0 (tok L s.p).text [e0]) (mustS L q (b1 93)) lv (.val (.agg ⟨[.int .i64 4, .int .i64 (tok L s.p).at_, .int .i64 0, .int .i64 0, .string (tok L s.p).text, .slice (some ⟨K2.n, 0, none⟩) 1 1]⟩)) ((K2.push (.row true 0 6 [.int .i64 a, .int .i64 b, .int .i64 c, .int .i64 d, .string y, .slice b1' m1 c1])).set (H.n + 1) (.row true 0 1 [.int .i64 4, .int .i64 (tok L s.p).at_, .int .i64 0, .int .i64 0, .string (tok L s.p).text, .slice (some ⟨K2.n, 0, none⟩) 1 1])) := by
      refine ⟨_, rfl, ⟨_, _, _, _, _, _, _, _, rfl⟩, ?_, (q5.keep k6 (fun h => h) (fun h => h)).keep k7 (by omega) (by omega), fun hc3 => ?_⟩
      · exact (((((Same.none kA).trans kC).trans kD).trans (Same.none k6))).then k7 (fun i hi => .inr (by omega))
      · have hq0 : q.c = 0 := (mustS_le L q (b1 93)).code hc3
        have r4 := RE.up (n := H.n + 1 + 1) (r3 hq0) ((Same.none (X := (· = r)) (Same.push (fun _ => False) _ _)).trans k5 |>.trans (Same.none k6)) (by simp; omega) (fun i hi => by simp; omega)
        have r6 := RE.parts 4 (tok L s.p).at_ 0 0 (tok L s.p).text (S := fun i => H.n + 1 + 1 ≤ i) (id := K2.n) (by omega) (Heap.get_push_self _ _) (REs.one r4)
        exact RE.up r6 k7 (by omega) (fun i hi => by omega)
    rw [k_name hE, callB, bodyOf]
    rw [hi] at e2
    simp only [b1] at e2
    generalize tok L s.p = tk at *
    generalize tok L s.on.p = tk2 at *
    simp only [Tk.v, Tk.cells, z6, prs, PS.on, Int.natCast_add, Int.natCast_one, b1] at *
    simp [Try.f51, hobj, hw, e1, e2, hr]
    simp [e3, e5, g5, gt2, gz2, show H.n < K2.n by omega, show K.n < K2.n by omega, show H.n + 1 < K2.n by omega, show ¬ H.n + 1 = K2.n by omega]
    exact fin
  · have hi' : isT (tok L s.on.p) (b1 91) = false := by simpa using hi
    rw [if_pos hi'] at hx
    simp only [Option.some.injEq, Prod.mk.injEq] at hx
    obtain ⟨rfl, rfl⟩ := hx
    have k7 : Same (fun i => i = H.n + 1) _ _ := Same.set (X := fun i => i = H.n + 1) (H1.push (.row true 0 1 (tok L s.on.p).cells)) (by simp; omega) rfl (.row true 0 1 [.int .i64 3, .int .i64 (tok L s.p).at_, .int .i64 0, .int .i64 0, .string (tok L s.p).text, .slice none 0 0])
    have fin : RetX H r lid L (.mk 3 (tok L s.p).at_ 0 0 (tok L s.p).text []) s.on lv (.val (.agg ⟨[.int .i64 3, .int .i64 (tok L s.p).at_, .int .i64 0, .int .i64 0, .string (tok L s.p).text, .slice none 0 0]⟩)) ((H1.push (.row true 0 1 (tok L s.on.p).cells)).set (H.n + 1) (.row true 0 1 [.int .i64 3, .int .i64 (tok L s.p).at_, .int .i64 0, .int .i64 0, .string (tok L s.p).text, .slice none 0 0])) := by
      refine ⟨_, rfl, ⟨_, _, _, _, _, _, _, _, rfl⟩, ((Same.none kA).trans kC).then k7 (fun i hi => .inr (by omega)), (h3.keep k7 (by omega) (by omega)).q, fun _ => RE.nil _ _ _ _ _ _ _⟩
    rw [k_name hE, callB, bodyOf]
    rw [hi'] at e2
    simp only [b1] at e2
    generalize tok L s.p = tk at *
    generalize tok L s.on.p = tk2 at *
    simp only [Tk.v, Tk.cells, z6, prs, PS.on, Int.natCast_add, Int.natCast_one, b1] at *
    simp [Try.f51, hobj, hw, e1, e2, hr]
    simp [gt, gz, show H.n < H1.n by omega, show H.n + 1 < H1.n + 1 by omega, show ¬ H.n + 1 = H1.n by omega]
    exact fin
/-- The innermost: what does not begin with a minus. -/
theorem prim_reads {L : List Tk} {n : Nat} (hex : ∀ j, j ≤ n → Reads E L 22 (.row 1) j) {H : Heap} {r lid : Nat} {s s' : PS} {lv : Int} {e : Ex} (h : RP H r lid L s lv) (hc : s.c = 0) (h0l : 0 ≤ lv) (hm : isP L s (b1 45) = false)
    (hx : xP L (n + 1) (.fact lv) s = some (e, s')) : Gives ((run Try.prog E).call 50 [.pointer (some ⟨r, 0, none⟩)] H) (RetX H r lid L e s' lv) := by
  have hr := h.lt
  have hl := h.lid_lt
  have hsm := h.small
  have h0 := h.same (Same.push (fun _ => False) _ (.row true 0 1 z6))
  obtain ⟨H1, e1, k1⟩ := tok_run hE h0
  have n1 := k1.n
  simp at n1
  have h1 := h0.same k1
  -- behind the token's cell
  obtain ⟨K, hK⟩ : ∃ K, K = H1.push (.row true 0 1 (tok L s.p).cells) := ⟨_, rfl⟩
  have hRP : RP K r lid L s lv := by rw [hK]; exact h1.same (Same.push (fun _ => False) _ _)
  have kS : Same (fun _ => False) (H.push (.row true 0 1 z6)) K := by rw [hK]; exact k1.then_push _
  have nK : K.n = H1.n + 1 := by rw [hK]; rfl
  have gt : K.get H1.n = .row true 0 1 (tok L s.p).cells := by rw [hK]; exact Heap.get_push_self _ _
  have gz : K.get H.n = .row true 0 1 z6 := kS.at (Heap.get_push_self _ _) (by simp) (fun h => h)
  have hbad := bad_run2 hE hRP
  have hobj := hRP.obj
  have hw := wrap64 ((s.p : Int) + 1)
  have eT := is_run2 hE (tok L s.p) tTrue K
  have eF := is_run2 hE (tok L s.p) tFalse (K.push (.row true 0 1 (tok L s.p).cells))
  have eP := is_run2 hE (tok L s.p) (b1 40) ((K.push (.row true 0 1 (tok L s.p).cells)).push (.row true 0 1 (tok L s.p).cells))
  rw [xP, if_neg (by rw [hm]; simp)] at hx
  -- a plain expression of one token
  have plain : ∀ (M : Heap) (a b c : Int), Same (fun _ => False) K M → s.p < L.length → ∀ (M2 : Heap), M2 = (M.set r (.row true 0 1 (prs lid L.length s.on lv))).set H.n (.row true 0 1 [.int .i64 a, .int .i64 b, .int .i64 c, .int .i64 0, .string ByteArray.empty, .slice none 0 0]) →
      RetX H r lid L (.mk a b c 0 ByteArray.empty []) s.on lv (.val (.agg ⟨[.int .i64 a, .int .i64 b, .int .i64 c, .int .i64 0, .string ByteArray.empty, .slice none 0 0]⟩)) M2 := by
    intro M a b c kM hp M2 hM2
    subst hM2
    have hM := hRP.same kM
    have nM := kM.n
    have h5 := hM.turn s.on lv (by show s.p + 1 ≤ _; omega)
    have k5 : Same (· = r) M _ := Same.set (X := (· = r)) M hM.lt rfl (.row true 0 1 (prs lid L.length s.on lv))
    have k6 : Same (fun i => i = H.n) _ _ := Same.set (X := fun i => i = H.n) (M.set r (.row true 0 1 (prs lid L.length s.on lv))) (by simp; omega) rfl (.row true 0 1 [.int .i64 a, .int .i64 b, .int .i64 c, .int .i64 0, .string ByteArray.empty, .slice none 0 0])
    exact ⟨_, rfl, ⟨_, _, _, _, _, _, _, _, rfl⟩, ((((Same.none (Same.push _ _ _)).trans (Same.none kS)).trans (Same.none kM)).trans k5).then k6 (fun i hi => .inr (by omega)), (h5.keep k6 (by omega) (by omega)).q, fun _ => RE.nil _ _ _ _ _ _ _⟩
  rw [k_prim hE, callB, bodyOf]
  have hT : isP L s tTrue = isT (tok L s.p) tTrue := isT_P hc _
  have hF : isP L s tFalse = isT (tok L s.p) tFalse := isT_P hc _
  have hP : isP L s (b1 40) = isT (tok L s.p) (b1 40) := isT_P hc _
  by_cases c1 : (tok L s.p).kind = 2
  · rw [if_pos c1] at hx
    simp only [Option.some.injEq, Prod.mk.injEq] at hx
    obtain ⟨rfl, rfl⟩ := hx
    have hp : s.p < L.length := tok_ge_kind (by omega)
    have fin := plain K 1 (tok L s.p).at_ (tok L s.p).num (Same.refl _ _) hp
    have hw := hw (by omega) (by omega)
    generalize tok L s.p = tk at *
    simp only [Tk.v, Tk.cells, z6, prs, PS.on, Int.natCast_add, Int.natCast_one] at *
    simp [Try.f50, e1]
    rw [← hK]
    simp [hbad, hc, gt, gz, c1, hobj, hw, show H1.n < K.n by omega, show H.n < K.n by omega, show ¬ H1.n = r by omega, show ¬ H.n = r by omega, show ¬ r = H.n by omega]
    have f := fin _ rfl
    simp only [hc] at f
    exact f
  rw [if_neg c1] at hx
  have gt1 : (K.push (.row true 0 1 (tok L s.p).cells)).get H1.n = .row true 0 1 (tok L s.p).cells := by rw [Heap.get_push, if_neg (by omega)]; exact gt
  have gt2 : ((K.push (.row true 0 1 (tok L s.p).cells)).push (.row true 0 1 (tok L s.p).cells)).get H1.n = .row true 0 1 (tok L s.p).cells := by rw [Heap.get_push, if_neg (by simp; omega)]; exact gt1
  by_cases c2 : isP L s tTrue = true
  · rw [if_pos c2] at hx
    simp only [Option.some.injEq, Prod.mk.injEq] at hx
    obtain ⟨rfl, rfl⟩ := hx
    have hp : s.p < L.length := isP_lt c2
    rw [hT] at c2
    have fin := plain (K.push (.row true 0 1 (tok L s.p).cells)) 2 (tok L s.p).at_ 1 (Same.push _ _ _) hp
    have hw := hw (by omega) (by omega)
    rw [c2] at eT
    simp only [tTrue] at eT
    generalize tok L s.p = tk at *
    simp only [Tk.v, Tk.cells, z6, prs, PS.on, Int.natCast_add, Int.natCast_one] at *
    simp [Try.f50, e1]
    rw [← hK]
    simp [hbad, hc, gt, gz, c1, eT, hobj, hw, gt1, show H1.n < K.n by omega, show H.n < K.n by omega, show H.n < K.n + 1 by omega, show ¬ H1.n = r by omega, show ¬ H.n = r by omega, show ¬ r = H.n by omega, show ¬ r = K.n by omega, show r < K.n by omega, show r < K.n + 1 by omega, show ¬ H.n = K.n by omega, show ¬ H1.n = K.n by omega]
    have f := fin _ rfl
    simp only [hc] at f
    exact f
  rw [if_neg c2] at hx
  have c2' : isT (tok L s.p) tTrue = false := by rw [← hT]; simpa using c2
  rw [c2'] at eT
  by_cases c3 : isP L s tFalse = true
  · rw [if_pos c3] at hx
    simp only [Option.some.injEq, Prod.mk.injEq] at hx
    obtain ⟨rfl, rfl⟩ := hx
    have hp : s.p < L.length := isP_lt c3
    rw [hF] at c3
    have fin := plain ((K.push (.row true 0 1 (tok L s.p).cells)).push (.row true 0 1 (tok L s.p).cells)) 2 (tok L s.p).at_ 0 ((Same.push _ _ _).then_push _) hp
    have hw := hw (by omega) (by omega)
    rw [c3] at eF
    simp only [tTrue, tFalse] at eT eF
    generalize tok L s.p = tk at *
    simp only [Tk.v, Tk.cells, z6, prs, PS.on, Int.natCast_add, Int.natCast_one] at *
    simp [Try.f50, e1]
    rw [← hK]
    simp [hbad, hc, gt, gz, c1, eT, eF, hobj, hw, gt1, gt2, show H1.n < K.n by omega, show H.n < K.n by omega, show H.n < K.n + 1 + 1 by omega, show ¬ H1.n = r by omega, show ¬ H.n = r by omega, show ¬ r = H.n by omega, show ¬ r = K.n by omega, show r < K.n by omega, show r < K.n + 1 + 1 by omega, show ¬ r = K.n + 1 by omega, show ¬ H.n = K.n by omega, show ¬ H1.n = K.n by omega, show ¬ H.n = K.n + 1 by omega]
    have f := fin _ rfl
    simp only [hc] at f
    exact f
  rw [if_neg c3] at hx
  have c3' : isT (tok L s.p) tFalse = false := by rw [← hF]; simpa using c3
  rw [c3'] at eF
  obtain ⟨M, hM⟩ : ∃ M, M = (K.push (.row true 0 1 (tok L s.p).cells)).push (.row true 0 1 (tok L s.p).cells) := ⟨_, rfl⟩
  have kM : Same (fun _ => False) K M := by rw [hM]; exact (Same.push _ _ _).then_push _
  have nM : M.n = K.n + 1 + 1 := by rw [hM]; rfl
  have gtM : M.get H1.n = .row true 0 1 (tok L s.p).cells := kM.at gt (by simp) (fun h => h)
  have gzM : M.get H.n = .row true 0 1 z6 := kM.at gz (by simp) (fun h => h)
  have hRM := hRP.same kM
  by_cases c4 : (tok L s.p).kind = 1
  · have c5 : isP L s (b1 40) = false := by rw [hP]; unfold isT; simp [c4]
    rw [if_neg (by rw [c5]; simp), if_pos c4] at hx
    obtain ⟨o, K', e3, hR⟩ := name_reads hE (fun j hj => hex j (by omega)) hRM hc h0l c4 hx
    obtain ⟨cs, rfl, ⟨a, b, c, d, y, b1, m1, c1', rfl⟩, g, hn, fin⟩ := RetX.out hE hr hl (kS.trans kM) hR
    simp only [tTrue, tFalse] at eT eF
    generalize tok L s.p = tk at *
    have hk1 : decide (tk.kind = 1) = true := by simpa using c4
    simp only [Tk.v, Tk.cells, z6] at *
    simp [Try.f50, e1]
    rw [← hK]
    simp [hbad, hc, gt, gz, c1, hk1, eT, eF, gt1, gt2, show H1.n < K.n by omega, show ¬ H1.n = K.n by omega, show ¬ H1.n = K.n + 1 by omega]
    rw [← hM]
    simp [e3, g, hn, gtM]
    exact fin
  by_cases c5 : isP L s (b1 40) = true
  · rw [if_pos c5] at hx
    have c6 := c5
    rw [hP] at c6
    rw [c6] at eP
    have hMp := hRM.same (Same.push (fun _ => False) _ (.row true 0 1 (tok L s.p).cells))
    have kMp : Same (fun _ => False) (H.push (.row true 0 1 z6)) (M.push (.row true 0 1 (tok L s.p).cells)) := (kS.trans kM).then_push _
    obtain ⟨q, hq, hs'⟩ : ∃ q, (if (opensS L s (lv + 1)).c ≠ 0 then some (Ex.zero, opensS L s (lv + 1)) else xP L n (.row 1 (lv + 1)) (opensS L s (lv + 1)).on) = some (e, q) ∧ s' = mustS L q (b1 41) := by
      by_cases ho : (opensS L s (lv + 1)).c ≠ 0
      · rw [if_pos ho] at hx
        simp only [Option.some.injEq, Prod.mk.injEq] at hx
        obtain ⟨rfl, rfl⟩ := hx
        refine ⟨_, by rw [if_pos ho], ?_⟩
        unfold mustS
        rw [if_neg (by unfold isP; simp [ho])]
        unfold faultS
        rw [if_neg ho]
      · rw [if_neg ho] at hx
        simp only [Option.map_eq_some_iff, Prod.mk.injEq] at hx
        obtain ⟨⟨e1, q⟩, h1, rfl, rfl⟩ := hx
        exact ⟨q, by rw [if_neg ho]; exact h1, rfl⟩
    obtain ⟨o, K', e3, hR⟩ := deeper_any hE (hex n (Nat.le_refl n)) hMp hc h0l (isP_lt c5) hq
    obtain ⟨cs, rfl, ⟨a, b, c, d, y, b1', m1, c1', rfl⟩, g, hn, fin⟩ := RetX.out hE hr hl kMp hR
    obtain ⟨cs2, hcs, h6, kR, qR, rR⟩ := fin
    simp only [Out.val.injEq, Value.agg.injEq, Array.mk.injEq] at hcs
    subst hcs
    obtain ⟨K2, e5, k5, q5⟩ := need_run hE qR (b1 41)
    have n5 := k5.n
    simp at n5
    have g5 : K2.get H.n = .row true 0 1 [.int .i64 a, .int .i64 b, .int .i64 c, .int .i64 d, .string y, .slice b1' m1 c1'] := k5.at (Heap.get_set_self _ _ hn) (by simp) (by omega)
    have k7 : Same (fun i => i = H.n) K2 (K2.set H.n (.row true 0 1 [.int .i64 a, .int .i64 b, .int .i64 c, .int .i64 d, .string y, .slice b1' m1 c1'])) := Same.set (X := fun i => i = H.n) K2 (by omega) rfl _
    have same : K2.set H.n (.row true 0 1 [.int .i64 a, .int .i64 b, .int .i64 c, .int .i64 d, .string y, .slice b1' m1 c1']) = K2.set H.n (.row true 0 1 [.int .i64 a, .int .i64 b, .int .i64 c, .int .i64 d, .string y, .slice b1' m1 c1']) := rfl
    have fin : RetX H r lid L e s' lv (.val (.agg ⟨[.int .i64 a, .int .i64 b, .int .i64 c, .int .i64 d, .string y, .slice b1' m1 c1']⟩)) (K2.set H.n (.row true 0 1 [.int .i64 a, .int .i64 b, .int .i64 c, .int .i64 d, .string y, .slice b1' m1 c1'])) := by
      subst hs'
      refine ⟨_, rfl, ⟨_, _, _, _, _, _, _, _, rfl⟩, (kR.trans k5).then k7 (fun i hi => .inr (by omega)), q5.keep k7 (by omega) (by omega), fun hc3 => ?_⟩
      have hq0 : q.c = 0 := (mustS_le L q (b1 41)).code hc3
      have k8 : Same (fun _ => False) K2 (K2.set H.n (.row true 0 1 [.int .i64 a, .int .i64 b, .int .i64 c, .int .i64 d, .string y, .slice b1' m1 c1'])) := ⟨Nat.le_refl _, fun j hj _ => by
        rw [Heap.get_set _ _ _ (by omega)]
        split
        · rename_i hj2; rw [hj2]; exact g5.symm
        · rfl⟩
      exact RE.move (k5.trans (Same.none k8)) (fun i hi _ => ⟨hi, by omega⟩) _ _ (rR hq0)
    simp only [tTrue, tFalse, b1] at eT eF eP e5
    have hk1 : decide ((tok L s.p).kind = 1) = false := by simpa using c4
    generalize tok L s.p = tk at *
    simp only [Tk.v, Tk.cells, z6] at *
    simp [Try.f50, e1]
    rw [← hK]
    simp [hbad, hc, gt, gz, c1, hk1, eT, eF, gt1, gt2, show H1.n < K.n by omega, show ¬ H1.n = K.n by omega, show ¬ H1.n = K.n + 1 by omega, eP]
    rw [← hM]
    simp [e3, e5, g, hn, gtM, g5, show H.n < K2.n by omega]
    exact fin
  · rw [if_neg c5, if_neg c4] at hx
    simp only [Option.some.injEq, Prod.mk.injEq] at hx
    obtain ⟨rfl, rfl⟩ := hx
    have c6 : isT (tok L s.p) (b1 40) = false := by rw [← hP]; simpa using c5
    rw [c6] at eP
    have hMp := hRM.same (Same.push (fun _ => False) _ (.row true 0 1 (tok L s.p).cells))
    have kMp : Same (fun _ => False) (H.push (.row true 0 1 z6)) (M.push (.row true 0 1 (tok L s.p).cells)) := (kS.trans kM).then_push _
    obtain ⟨K2, e5, k5, h5⟩ := fail_run hE hMp 14 (tok L s.p).at_
    have kk : Same (· = r) (H.push (.row true 0 1 z6)) K2 := (Same.none kMp).trans k5
    have n5 := kk.n
    simp at n5
    have g5 : K2.get H.n = .row true 0 1 z6 := kk.at (Heap.get_push_self _ _) (by simp) (by omega)
    have k7 : Same (fun i => i = H.n) K2 (K2.set H.n (.row true 0 1 z6)) := Same.set (X := fun i => i = H.n) K2 (by omega) rfl _
    have gtN : (M.push (.row true 0 1 (tok L s.p).cells)).get H1.n = .row true 0 1 (tok L s.p).cells := by rw [Heap.get_push, if_neg (by omega)]; exact gtM
    have fin : RetX H r lid L .zero (faultS L s 14) lv (.val (.agg ⟨z6⟩)) (K2.set H.n (.row true 0 1 z6)) := by
      unfold faultS
      rw [if_pos hc]
      rw [if_pos hc] at h5
      exact ⟨_, rfl, six_z, ((Same.push _ _ _).trans kk).then k7 (fun i hi => .inr (by omega)), (h5.keep k7 (by omega) (by omega)).q, fun h => by simp at h⟩
    simp only [tTrue, tFalse, b1] at eT eF eP
    have hk1 : decide ((tok L s.p).kind = 1) = false := by simpa using c4
    generalize tok L s.p = tk at *
    simp only [Tk.v, Tk.cells, z6] at *
    simp [Try.f50, e1]
    rw [← hK]
    simp [hbad, hc, gt, gz, c1, hk1, eT, eF, gt1, gt2, show H1.n < K.n by omega, show ¬ H1.n = K.n by omega, show ¬ H1.n = K.n + 1 by omega, eP]
    rw [← hM]
    simp [e5, gtM, gtN, g5, show H1.n < M.n by omega, show ¬ H1.n = M.n by omega, show H.n < K2.n by omega]
    exact fin
end
end Go.Vm.Ex
