/- What is proved: the reference's 'Expr' reads what the reader of expressions in plain words reads; the size of what is read; the law's own functions. -/
import Derived.Test.YtblmgcfigcpoaaaExprW7
import Derived.Test.YtblmgcfigcpoaaaExprT
import Derived.Test.YtblmgcfigcpoaaaFEq
import Derived.Test.YtblmgcfigcpoaaaLexL
import Derived.Test.YtblmgcfigcpoaaaVmO
namespace Go.Vm.Ex
open Go Go.Proofs Go.Vm.Parse
set_option maxRecDepth 100000
set_option maxHeartbeats 4000000
set_option linter.unusedSimpArgs false
set_option linter.unusedVariables false
attribute [local simp] repCells_succ writeAt rd_Fr toList_beq gpe gpn spe gse gsn ne_r0 ne_l0 le_s0 ne_r1 ne_l1 lt_s1 le_s1 ne_r2 ne_l2 lt_s2 le_s2 ne_r3 ne_l3 lt_s3 le_s3 ne_r4 ne_l4 lt_s4 le_s4 ne_r5 ne_l5 lt_s5 le_s5 ne_r6 ne_l6 lt_s6 le_s6 ne_r7 ne_l7 lt_s7 le_s7
/-! ### How much is read -/
def del (s : PS) : Nat := if s.c = 0 then 0 else 1
theorem del_must (L : List Tk) (s : PS) (x : ByteArray) : s.p + del s ≤ (mustS L s x).p + del (mustS L s x) := by
  unfold mustS
  split
  · show s.p + del s ≤ s.p + 1 + _
    have : del s ≤ 1 := by unfold del; split <;> omega
    omega
  · unfold faultS
    split
    · show s.p + del s ≤ s.p + _
      rename_i h
      unfold del
      rw [if_pos h]; omega
    · exact Nat.le_refl _
theorem del_bad {s : PS} (h : s.c ≠ 0) : del s = 1 := by unfold del; rw [if_neg h]
theorem del_ok {s : PS} (h : s.c = 0) : del s = 0 := by unfold del; rw [if_pos h]
theorem faultS_p (L : List Tk) (s : PS) (c : Int) : (faultS L s c).p = s.p := by unfold faultS; split <;> rfl
theorem x_size (L : List Tk) : ∀ n cmd s e s', xP L n cmd s = some (e, s') → match cmd with
    | .loop _ _ x => (placesE e).length + s.p ≤ (placesE x).length + s'.p + (if s.c = 0 then del s' else 0)
    | _ => (placesE e).length + s.p ≤ s'.p + del s' := by
  intro n
  induction n with
  | zero => intro cmd s e s' h; cases h
  | succ n ih =>
    intro cmd s e s' h
    have z : (placesE .zero).length = 1 := rfl
    have l0 : ∀ {a b c d y}, (placesE (.mk a b c d y [])).length = 1 := by simp [placesE, placesEs]
    have l1 : ∀ {a b c d y} {x : Ex}, (placesE (.mk a b c d y [x])).length = 1 + (placesE x).length := by intros; simp [placesE, placesEs]; omega
    have l2 : ∀ {a b c d y} {x x2 : Ex}, (placesE (.mk a b c d y [x, x2])).length = 1 + (placesE x).length + (placesE x2).length := by intros; simp [placesE, placesEs]; omega
    have op : ∀ {lv : Int}, ¬ (opensS L s lv).c ≠ 0 → (opensS L s lv).on.p = s.p + 1 := fun {lv} h => by show (opensS L s lv).p + 1 = _; rw [opensS_p]
    have opb : ∀ {lv : Int}, (opensS L s lv).c ≠ 0 → 1 + s.p ≤ (opensS L s lv).p + del (opensS L s lv) := fun {lv} h => by rw [opensS_p, del_bad h]; omega
    have fb : ∀ {c : Int}, c ≠ 0 → 1 + s.p ≤ (faultS L s c).p + del (faultS L s c) := fun {c} h => by
      rw [faultS_p, del_bad (faultS_le L s h).2]; omega
    cases cmd with
    | row k lv =>
      rw [xP] at h
      show (placesE e).length + s.p ≤ s'.p + del s'
      split at h
      · rename_i hc; cases h; rw [z, del_bad hc]; omega
      split at h
      · exact ih _ _ _ _ h
      split at h
      · split at h
        · exact ih _ _ _ _ h
        split at h
        · rename_i ho; cases h; rw [z]; exact opb ho
        · rename_i ho
          simp only [Option.map_eq_some_iff] at h
          obtain ⟨⟨e1, s1⟩, h1, h2⟩ := h
          dsimp only at h2
          simp only [Prod.mk.injEq, Option.some.injEq] at h2
          obtain ⟨rfl, rfl⟩ := h2
          have := ih _ _ _ _ h1
          simp only [] at this
          rw [op ho] at this
          rw [l1]; omega
      · simp only [Option.bind_eq_some_iff] at h
        obtain ⟨⟨e1, s1⟩, h1, h2⟩ := h
        dsimp only at h2
        have a := ih _ _ _ _ h1
        have b := ih _ _ _ _ h2
        simp only [] at a b
        by_cases hc : s1.c = 0
        · rw [if_pos hc] at b; rw [del_ok hc] at a; omega
        · cases n with
          | zero => cases h2
          | succ n =>
            have ho : opP L s1 k = 0 := by
              cases hq : decide (opP L s1 k = 0) with
              | true => simpa using hq
              | false => exact absurd (opP_lt (by simpa using hq)).1 hc
            rw [xP, if_pos ho] at h2
            simp only [Prod.mk.injEq, Option.some.injEq] at h2
            obtain ⟨rfl, rfl⟩ := h2
            exact a
    | loop k lv x =>
      rw [xP] at h
      show (placesE e).length + s.p ≤ (placesE x).length + s'.p + _
      split at h
      · cases h; omega
      · rename_i ho
        have hc := (opP_lt ho).1
        rw [if_pos hc]
        simp only [Option.bind_eq_some_iff] at h
        obtain ⟨⟨e1, s1⟩, h1, h2⟩ := h
        dsimp only at h2
        have a := ih _ _ _ _ h1
        simp only [] at a
        have hon : s.on.p = s.p + 1 := rfl
        rw [hon] at a
        split at h2
        · cases h2; rw [l2]; omega
        · have b := ih _ _ _ _ h2
          simp only [l2] at b
          by_cases hc1 : s1.c = 0
          · rw [if_pos hc1] at b; rw [del_ok hc1] at a; omega
          · cases n with
            | zero => cases h2
            | succ n =>
              have ho : opP L s1 k = 0 := by
                cases hq : decide (opP L s1 k = 0) with
                | true => simpa using hq
                | false => exact absurd (opP_lt (by simpa using hq)).1 hc1
              rw [xP, if_pos ho] at h2
              simp only [Prod.mk.injEq, Option.some.injEq] at h2
              obtain ⟨rfl, rfl⟩ := h2
              rw [l2]; omega
    | fact lv =>
      rw [xP] at h
      show (placesE e).length + s.p ≤ s'.p + del s'
      have leaf : ∀ {a b c d y}, (placesE (.mk a b c d y [])).length + s.p ≤ s.on.p + del s.on := by
        intros; rw [l0]; show 1 + s.p ≤ s.p + 1 + _; omega
      split at h
      · split at h
        · rename_i ho; cases h; rw [z]; exact opb ho
        · rename_i ho
          simp only [Option.map_eq_some_iff] at h
          obtain ⟨⟨e1, s1⟩, h1, h2⟩ := h
          dsimp only at h2
          simp only [Prod.mk.injEq, Option.some.injEq] at h2
          obtain ⟨rfl, rfl⟩ := h2
          have := ih _ _ _ _ h1
          simp only [] at this
          rw [op ho] at this
          rw [l1]; omega
      split at h
      · cases h; exact leaf
      split at h
      · cases h; exact leaf
      split at h
      · cases h; exact leaf
      split at h
      · split at h
        · rename_i ho; cases h; rw [z]; exact opb ho
        · rename_i ho
          simp only [Option.map_eq_some_iff] at h
          obtain ⟨⟨e1, s1⟩, h1, h2⟩ := h
          dsimp only at h2
          simp only [Prod.mk.injEq, Option.some.injEq] at h2
          obtain ⟨rfl, rfl⟩ := h2
          have := ih _ _ _ _ h1
          have h4 := del_must L s1 (b1 41)
          simp only [] at this
          rw [op ho] at this
          show (placesE e1).length + s.p ≤ _
          omega
      split at h
      · split at h
        · cases h; exact leaf
        · simp only [Option.map_eq_some_iff] at h
          obtain ⟨⟨e1, s1⟩, h1, h2⟩ := h
          dsimp only at h2
          simp only [Prod.mk.injEq, Option.some.injEq] at h2
          obtain ⟨rfl, rfl⟩ := h2
          have := ih _ _ _ _ h1
          simp only [] at this
          have hon : s.on.p = s.p + 1 := rfl
          rw [hon] at this
          rw [l1]; omega
      · cases h; rw [z]; exact fb (by omega)
    | index lv =>
      rw [xP] at h
      show (placesE e).length + s.p ≤ s'.p + del s'
      split at h
      · cases h; rw [z]; exact fb (by omega)
      split at h
      · rename_i ho
        cases h
        rw [z, faultS_p, opensS_p]
        unfold faultS
        rw [if_neg ho, del_bad ho]; omega
      · rename_i ho
        simp only [Option.map_eq_some_iff] at h
        obtain ⟨⟨e1, s1⟩, h1, h2⟩ := h
        dsimp only at h2
        simp only [Prod.mk.injEq, Option.some.injEq] at h2
        obtain ⟨rfl, rfl⟩ := h2
        have := ih _ _ _ _ h1
        have h4 := del_must L s1 (b1 93)
        simp only [] at this
        rw [op ho] at this
        show (placesE e1).length + s.p ≤ _
        omega
/-! ### The reference's 'Expr' -/
theorem pl_rex0 : planOf Try.prog (drawN Try.f18 0) = some [none, (some (0, 1)), (some (0, 1)), (some (0, 1)), (some (0, 1)), none, none, none] := by decide +kernel
theorem pl_rex1 : planOf Try.prog (drawN Try.f18 1) = some [none, (some (0, 1)), (some (0, 1)), (some (0, 1)), (some (0, 1)), (some (0, 1)), none, none, none] := by decide +kernel
section
variable {E : Hooks} (hE : Plain E)
include hE
theorem c_RExpr (args : List Value) (H : Heap) : (run Try.prog E).call 18 args H = callB Try.prog E Try.f18 args H := call_B Try.func18 rfl (by decide +kernel) (hE.no _ rfl rfl) args H
theorem c_within2 (args : List Value) (H : Heap) : (run Try.prog E).call 10 args H = callB Try.prog E Try.f10 args H := call_B Try.func10 rfl (by decide +kernel) (hE.no _ rfl rfl) args H
theorem ref_walk {H : Heap} {lid tl : Nat} {L : List Tk} {p : Nat} {lv : Int} {n : Nat} {e : Ex} {s : PS} (hL : H.get lid = .row true tl 4 (flatT L)) (hsm : L.length ≤ 100000) (hp : p ≤ L.length) (h0 : 0 ≤ lv) (h24 : lv ≤ 24)
    (hx : xP L n (.row 1 lv) ⟨p, 0, 0⟩ = some (e, s)) :
    Gives ((run Try.prog E).call 18 [.slice (some ⟨lid, 0, none⟩) L.length L.length, .int .i64 p, .int .i64 lv] H) fun o H' => RetPar H e s o H' ∧ s.p ≤ L.length := by
  have hl := Heap.lt_of_get hL (by simp)
  obtain ⟨K, hK⟩ : ∃ K, K = ((H.push (.row true 0 1 z6)).push (.row true 0 1 [.int .i64 0, .int .i64 0])).push (.row true 0 1 [.slice (some ⟨lid, 0, none⟩) L.length L.length, .int .i64 p, .int .i64 0, .int .i64 0]) := ⟨_, rfl⟩
  have nK : K.n = H.n + 1 + 1 + 1 := by rw [hK]; rfl
  have kK : Same (fun _ => False) H K := by rw [hK]; exact ((Same.push _ _ _).then_push _).then_push _
  have hR : RD K (H.n + 1 + 1) lid L ⟨p, 0, 0⟩ := ⟨by rw [hK]; exact Heap.get_push_self _ _, ⟨tl, kK.at hL (by simp) (fun h => h)⟩, hsm, hp⟩
  obtain ⟨o, K2, e2, cs, rfl, k2, h2, r2⟩ := (x_all hE (r := H.n + 1 + 1) (lid := lid) (L := L) n).1 1 lv ⟨p, 0, 0⟩ e s hx (by omega) (by omega) h0 h24 K hR
  obtain ⟨a, b, c, d, y, b1', m1, c1, rfl⟩ := RE.shape r2
  have n2 := k2.n
  have g0 : K2.get H.n = .row true 0 1 z6 := k2.at (by rw [hK, Heap.get_push, if_neg (by simp), Heap.get_push, if_neg (by simp), Heap.get_push_self]) (by simp) (by omega)
  have g1 : K2.get (H.n + 1) = .row true 0 1 [.int .i64 0, .int .i64 0] := k2.at (by rw [hK, Heap.get_push, if_neg (by simp)]; exact Heap.get_push_self _ _) (by simp) (by omega)
  have h3 := h2.same (Same.push (fun _ => False) K2 (.row true 0 1 [.int .i64 a, .int .i64 b, .int .i64 c, .int .i64 d, .string y, .slice b1' m1 c1]))
  have hbad := bad_run hE h3
  have hobj := h3.obj
  have hobj2 := h2.obj
  have hpl := h2.place
  have k3 : Same (fun i => i = H.n + 1 + 1) K (K2.push (.row true 0 1 [.int .i64 a, .int .i64 b, .int .i64 c, .int .i64 d, .string y, .slice b1' m1 c1])) := k2.then_push _
  have kEnd : ∀ o1 o2, Same (fun _ => False) H (((K2.push (.row true 0 1 [.int .i64 a, .int .i64 b, .int .i64 c, .int .i64 d, .string y, .slice b1' m1 c1])).set H.n o1).set (H.n + 1) o2) := fun o1 o2 =>
    ((kK.then k3 (fun i hi => .inr (by omega))).then_set (by simp; omega) (.inr (by omega)) o1).then_set (by simp; omega) (.inr (by omega)) o2
  rw [c_RExpr hE, callB, bodyOf]
  unfold RetPar
  by_cases hc : s.c = 0
  · have kM : Same (fun i => i = H.n ∨ i = H.n + 1) K2 (((K2.push (.row true 0 1 [.int .i64 a, .int .i64 b, .int .i64 c, .int .i64 d, .string y, .slice b1' m1 c1])).set H.n (.row true 0 1 [.int .i64 a, .int .i64 b, .int .i64 c, .int .i64 d, .string y, .slice b1' m1 c1])).set (H.n + 1) (.row true 0 1 [.int .i64 0, .int .i64 0])) :=
      ((Same.none (Same.push _ _ _)).then_set (by simp; omega) (.inl (.inl rfl)) _).then_set (by simp; omega) (.inl (.inr rfl)) _
    have fin := RE.up (n := H.n) r2 kM (by omega) (fun i hi => by omega)
    simp only [hc, if_true]
    simp only [z6, hc] at *
    simp [Try.f18]
    rw [← hK]
    simp [e2, hbad, g0, g1, show H.n < K2.n by omega]
    refine region_plan (by exact pl_rex1) ?_
    simp [hobj, hobj2, g0, g1, show H.n < K2.n by omega, show H.n + 1 < K2.n by omega, show H.n + 1 + 1 < K2.n by omega, show ¬ H.n = K2.n by omega, show ¬ H.n + 1 = K2.n by omega, show ¬ H.n + 1 + 1 = K2.n by omega]
    exact ⟨⟨kEnd _ _, fin⟩, hpl⟩
  · simp only [hc, if_false]
    simp only [z6] at *
    simp [Try.f18]
    rw [← hK]
    simp [e2, hbad, hc, g0, g1, show H.n < K2.n by omega]
    refine region_plan (by exact pl_rex0) ?_
    simp [hobj, hobj2, g0, g1, show H.n < K2.n by omega, show H.n + 1 < K2.n by omega, show H.n + 1 + 1 < K2.n by omega, show ¬ H.n = K2.n by omega, show ¬ H.n + 1 = K2.n by omega, show ¬ H.n + 1 + 1 = K2.n by omega]
    exact ⟨kEnd _ _, hpl⟩
theorem within_any {x : Int} (hx : Lit.wf (.int .i64 x) = true) (lo hi : Int) (h0 : 0 ≤ lo) (h1 : lo ≤ hi) (h2 : hi ≤ 1000000) :
    ∃ k : Nat, lo ≤ k ∧ (k : Int) ≤ hi ∧ ∀ H, (run Try.prog E).call 10 [.int .i64 x, .int .i64 lo, .int .i64 hi] H = some (.val (.int .i64 k), H) := by
  suffices key : ∃ k : Nat, lo ≤ k ∧ (k : Int) ≤ hi ∧ ∀ H, Gives ((run Try.prog E).call 10 [.int .i64 x, .int .i64 lo, .int .i64 hi] H) fun o H' => o = .val (.int .i64 k) ∧ H' = H by
    obtain ⟨k, h3, h4, h5⟩ := key
    refine ⟨k, h3, h4, fun H => ?_⟩
    obtain ⟨o, H', e, rfl, rfl⟩ := h5 H
    exact e
  have w1 : IntKind.i64.wrap (hi - lo) = hi - lo := wrap64 _ (by omega) (by omega)
  have w2 : IntKind.i64.wrap (hi - lo + 1) = hi - lo + 1 := wrap64 _ (by omega) (by omega)
  have hb : -(hi - lo + 1) < x.tmod (hi - lo + 1) ∧ x.tmod (hi - lo + 1) < hi - lo + 1 := by
    have h1 := Int.tmod_lt_of_pos x (show (0 : Int) < hi - lo + 1 by omega)
    have h2 := Int.neg_tmod x (hi - lo + 1)
    have h3 := Int.tmod_lt_of_pos (-x) (show (0 : Int) < hi - lo + 1 by omega)
    omega
  have hr := fun ty a b => bin_rem (P := Try.prog) ty a b .i64 x (hi - lo + 1) (by omega)
  generalize x.tmod (hi - lo + 1) = y at hb hr
  by_cases hy : y < 0
  · have w3 : IntKind.i64.wrap (y + hi) = y + hi := wrap64 _ (by omega) (by omega)
    have w4 : IntKind.i64.wrap (y + hi - lo) = y + hi - lo := wrap64 _ (by omega) (by omega)
    have w5 : IntKind.i64.wrap (y + hi - lo + 1) = y + hi - lo + 1 := wrap64 _ (by omega) (by omega)
    have w6 : IntKind.i64.wrap (lo + (y + hi - lo + 1)) = lo + (y + hi - lo + 1) := wrap64 _ (by omega) (by omega)
    refine ⟨(lo + (y + hi - lo + 1)).toNat, by omega, by omega, fun H => ?_⟩
    rw [c_within2 hE, callB, bodyOf]
    simp [Try.f10, w1, w2, hr, hy, w3, w4, w5, w6]
    omega
  · have w6 : IntKind.i64.wrap (lo + y) = lo + y := wrap64 _ (by omega) (by omega)
    refine ⟨(lo + y).toNat, by omega, by omega, fun H => ?_⟩
    rw [c_within2 hE, callB, bodyOf]
    simp [Try.f10, w1, w2, hr, hy, w6]
    omega
end
end Go.Vm.Ex
