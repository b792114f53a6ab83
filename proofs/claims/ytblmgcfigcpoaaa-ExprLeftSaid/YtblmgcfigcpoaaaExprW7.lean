/- What is proved: 'expr.Parse' reads what the reader of expressions in plain words reads. -/
import Derived.Test.YtblmgcfigcpoaaaExprW6
namespace Go.Vm.Ex
open Go Go.Proofs Go.Vm.Parse
set_option maxRecDepth 100000
set_option maxHeartbeats 4000000
set_option linter.unusedSimpArgs false
set_option linter.unusedVariables false
attribute [local simp] repCells_succ writeAt rd_Fr toList_beq gpe gpn spe gse gsn ne_r0 ne_l0 le_s0 ne_r1 ne_l1 lt_s1 le_s1 ne_r2 ne_l2 lt_s2 le_s2 ne_r3 ne_l3 lt_s3 le_s3 ne_r4 ne_l4 lt_s4 le_s4 ne_r5 ne_l5 lt_s5 le_s5 ne_r6 ne_l6 lt_s6 le_s6 ne_r7 ne_l7 lt_s7 le_s7
theorem pl_par0 : planOf Try.prog (drawN Try.f12 0) = some [none, (some (0, 1)), (some (0, 1)), (some (0, 1)), (some (0, 1)), none, none, none] := by decide +kernel
theorem pl_par1 : planOf Try.prog (drawN Try.f12 1) = some [none, (some (0, 1)), (some (0, 1)), (some (0, 1)), (some (0, 1)), (some (0, 1)), none, none, none] := by decide +kernel
section
variable {E : Hooks} (hE : Plain E)
include hE
theorem fact_reads {L : List Tk} {n : Nat} (hfact : Reads E L 49 .fact n) (hex : ∀ j, j ≤ n → Reads E L 22 (.row 1) j) : Reads E L 49 .fact (n + 1) := by
  intro H r lid s lv e s' h hc h0l hlv hx
  have hr := h.lt
  have hl := h.lid_lt
  have h0 := h.same (Same.push (fun _ => False) _ (.row true 0 1 z6))
  obtain ⟨H1, e1, k1⟩ := tok_run hE h0
  have h1 := h0.same k1
  have e2 := is_run2 hE (tok L s.p) (b1 45) H1
  have h2 := h1.same (Same.push (fun _ => False) _ (.row true 0 1 (tok L s.p).cells))
  have kS : Same (fun _ => False) (H.push (.row true 0 1 z6)) (H1.push (.row true 0 1 (tok L s.p).cells)) := k1.then_push _
  have hm : isP L s (b1 45) = isT (tok L s.p) (b1 45) := isT_P hc _
  by_cases hi : isT (tok L s.p) (b1 45) = true
  · rw [xP, if_pos (by rw [hm]; exact hi)] at hx
    obtain ⟨o, K', e3, hR⟩ := un_reads hE 14 hfact h2 hc h0l (isT_lt hi) hx
    obtain ⟨cs, rfl, ⟨a, b, c, d, y, b1', m1, c1, rfl⟩, g, hn, fin⟩ := RetX.out hE hr hl kS hR
    rw [k_fact hE, callB, bodyOf]
    rw [hi] at e2
    simp only [b1] at e2
    generalize tok L s.p = tk at *
    simp only [Tk.v, Tk.cells, z6] at *
    simp [Try.f49, e1, e2, e3, g, hn]
    exact fin
  · have hi' : isT (tok L s.p) (b1 45) = false := by simpa using hi
    obtain ⟨o, K', e3, hR⟩ := prim_reads hE hex h2 hc h0l (by rw [hm]; exact hi') hx
    obtain ⟨cs, rfl, ⟨a, b, c, d, y, b1', m1, c1, rfl⟩, g, hn, fin⟩ := RetX.out hE hr hl kS hR
    rw [k_fact hE, callB, bodyOf]
    rw [hi'] at e2
    simp only [b1] at e2
    generalize tok L s.p = tk at *
    simp only [Tk.v, Tk.cells, z6] at *
    simp [Try.f49, e1, e2, e3, g, hn]
    exact fin
theorem Reads.zero {L : List Tk} {f : FuncId} {cmd : Int → XC} : Reads E L f cmd 0 := by
  have _ := hE
  intro H r lid s lv e s' h hc h0l hlv hx
  cases hx
/-- All of the reader's functions read what they must. -/
theorem all_reads (L : List Tk) : ∀ n, Reads E L 22 (.row 1) n ∧ Reads E L 29 (.row 2) n ∧ Reads E L 37 (.row 3) n ∧ Reads E L 44 (.row 4) n ∧ Reads E L 46 (.row 5) n ∧
    Reads E L 48 (.row 6) n ∧ Reads E L 49 .fact n := by
  intro n
  induction n using Nat.strongRecOn with
  | _ n ih =>
    cases n with
    | zero => exact ⟨Reads.zero hE, Reads.zero hE, Reads.zero hE, Reads.zero hE, Reads.zero hE, Reads.zero hE, Reads.zero hE⟩
    | succ n =>
      have lt : ∀ {j}, j ≤ n → j < n + 1 := fun h => by omega
      refine ⟨expr_reads hE fun j hj => (ih j (lt hj)).2.1, conj_reads hE fun j hj => (ih j (lt hj)).2.2.1, neg_reads hE (ih n (lt (Nat.le_refl n))).2.2.2.1 (ih n (lt (Nat.le_refl n))).2.2.1, rel_reads hE fun j hj => (ih j (lt hj)).2.2.2.2.1,
        sum_reads hE fun j hj => (ih j (lt hj)).2.2.2.2.2.1, term_reads hE fun j hj => ?_, fact_reads hE (ih n (lt (Nat.le_refl n))).2.2.2.2.2.2 fun j hj => (ih j (lt hj)).1⟩
      intro H r lid s lv e s' h hc h0l hlv hx
      cases j with
      | zero => cases hx
      | succ j =>
        rw [xP, if_neg (by simpa using hc), if_pos (by omega)] at hx
        exact (ih j (by omega)).2.2.2.2.2.2 H r lid s lv e s' h hc h0l hlv hx
/-- What 'expr.Parse' must give. -/
def RetPar (H : Heap) (e : Ex) (s : PS) (o : Out) (H' : Heap) : Prop :=
  Same (fun _ => False) H H' ∧ if s.c = 0 then ∃ cs, o = .val (.tuple #[.agg ⟨cs⟩, .int .i64 s.p, .agg ⟨[.int .i64 0, .int .i64 0]⟩]) ∧ RE H' (fun i => H.n ≤ i) e cs
    else o = .val (.tuple #[.agg ⟨z6⟩, .int .i64 0, .agg ⟨[.int .i64 s.c, .int .i64 s.a]⟩])
theorem par_walk {H : Heap} {lid tl : Nat} {L : List Tk} {p : Nat} {lv : Int} {n : Nat} {e : Ex} {s : PS} (hL : H.get lid = .row true tl 4 (flatT L)) (hsm : L.length ≤ 100000) (hp : p ≤ L.length) (h0 : 0 ≤ lv) (h24 : lv ≤ 24)
    (hx : xP L n (.row 1 lv) ⟨p, 0, 0⟩ = some (e, s)) :
    Gives ((run Try.prog E).call 12 [.slice (some ⟨lid, 0, none⟩) L.length L.length, .int .i64 p, .int .i64 lv] H) (RetPar H e s) := by
  have hl := Heap.lt_of_get hL (by simp)
  obtain ⟨K, hK⟩ : ∃ K, K = ((H.push (.row true 0 1 z6)).push (.row true 0 1 [.int .i64 0, .int .i64 0])).push (.row true 0 1 (prs lid L.length ⟨p, 0, 0⟩ lv)) := ⟨_, rfl⟩
  have nK : K.n = H.n + 1 + 1 + 1 := by rw [hK]; rfl
  have kK : Same (fun _ => False) H K := by rw [hK]; exact ((Same.push _ _ _).then_push _).then_push _
  have hR : RP K (H.n + 1 + 1) lid L ⟨p, 0, 0⟩ lv := ⟨by rw [hK]; exact Heap.get_push_self _ _, ⟨tl, kK.at hL (by simp) (fun h => h)⟩, hsm, hp, by omega⟩
  obtain ⟨o, K2, e2, cs, rfl, ⟨a, b, c, d, y, b1', m1, c1, rfl⟩, k2, ⟨s2, h2, hc2, ha2, hs2⟩, r2⟩ := (all_reads hE L n).1 K (H.n + 1 + 1) lid ⟨p, 0, 0⟩ lv e s hR rfl h0 h24 hx
  have n2 := k2.n
  have g0 : K2.get H.n = .row true 0 1 z6 := k2.at (by rw [hK, Heap.get_push, if_neg (by simp), Heap.get_push, if_neg (by simp), Heap.get_push_self]) (by simp) (by omega)
  have g1 : K2.get (H.n + 1) = .row true 0 1 [.int .i64 0, .int .i64 0] := k2.at (by rw [hK, Heap.get_push, if_neg (by simp)]; exact Heap.get_push_self _ _) (by simp) (by omega)
  have h3 := h2.same (Same.push (fun _ => False) K2 (.row true 0 1 [.int .i64 a, .int .i64 b, .int .i64 c, .int .i64 d, .string y, .slice b1' m1 c1]))
  have hbad := bad_run2 hE h3
  have hobj := h3.obj
  have hobj2 := h2.obj
  have k3 : Same (fun i => i = H.n + 1 + 1) K (K2.push (.row true 0 1 [.int .i64 a, .int .i64 b, .int .i64 c, .int .i64 d, .string y, .slice b1' m1 c1])) := k2.then_push _
  have kEnd : ∀ o1 o2, Same (fun _ => False) H (((K2.push (.row true 0 1 [.int .i64 a, .int .i64 b, .int .i64 c, .int .i64 d, .string y, .slice b1' m1 c1])).set H.n o1).set (H.n + 1) o2) := fun o1 o2 =>
    ((kK.then k3 (fun i hi => .inr (by omega))).then_set (by simp; omega) (.inr (by omega)) o1).then_set (by simp; omega) (.inr (by omega)) o2
  rw [k_Parse hE, callB, bodyOf]
  unfold RetPar
  by_cases hc : s.c = 0
  · have e3 := hs2 hc
    subst e3
    have kM : Same (fun i => i = H.n ∨ i = H.n + 1) K2 (((K2.push (.row true 0 1 [.int .i64 a, .int .i64 b, .int .i64 c, .int .i64 d, .string y, .slice b1' m1 c1])).set H.n (.row true 0 1 [.int .i64 a, .int .i64 b, .int .i64 c, .int .i64 d, .string y, .slice b1' m1 c1])).set (H.n + 1) (.row true 0 1 [.int .i64 0, .int .i64 0])) :=
      ((Same.none (Same.push _ _ _)).then_set (by simp; omega) (.inl (.inl rfl)) _).then_set (by simp; omega) (.inl (.inr rfl)) _
    have fin := RE.up (n := H.n) (r2 hc) kM (by omega) (fun i hi => by omega)
    simp only [hc, if_true]
    simp only [prs, z6, hc] at *
    simp [Try.f12]
    rw [← hK]
    simp [e2, hbad, g0, g1, show H.n < K2.n by omega]
    refine region_plan (by exact pl_par1) ?_
    simp [hobj, hobj2, g0, g1, show H.n < K2.n by omega, show H.n + 1 < K2.n by omega, show H.n + 1 + 1 < K2.n by omega, show ¬ H.n = K2.n by omega, show ¬ H.n + 1 = K2.n by omega, show ¬ H.n + 1 + 1 = K2.n by omega]
    exact ⟨kEnd _ _, fin⟩
  · have hc3 : ¬ s2.c = 0 := by rw [hc2]; exact hc
    simp only [hc, if_false]
    simp only [prs, z6] at *
    simp [Try.f12]
    rw [← hK]
    simp [e2, hbad, hc3, g0, g1, show H.n < K2.n by omega]
    refine region_plan (by exact pl_par0) ?_
    simp [hobj, hobj2, g0, g1, show H.n < K2.n by omega, show H.n + 1 < K2.n by omega, show H.n + 1 + 1 < K2.n by omega, show ¬ H.n = K2.n by omega, show ¬ H.n + 1 = K2.n by omega, show ¬ H.n + 1 + 1 = K2.n by omega]
    exact ⟨kEnd _ _, hc2, ha2⟩
end
end Go.Vm.Ex
