/- What is proved: 'signalboxlaw23.ExprParses' hands back true, whatever the input. -/
import Derived.Test.YtblmgcfigcpoaaaExprL
import Derived.Test.YtblmgcfigcpoaaaExpr23
namespace Go.Vm.Ex
open Go Go.Proofs Go.Vm.Parse Go.Vm.ExprLaw
set_option maxRecDepth 100000
set_option maxHeartbeats 4000000
set_option linter.unusedSimpArgs false
set_option linter.unusedVariables false
attribute [local simp] repCells_succ writeAt rd_Fr toList_beq gpe gpn spe gse gsn ne_r0 ne_l0 le_s0 ne_r1 ne_l1 lt_s1 le_s1 ne_r2 ne_l2 lt_s2 le_s2 ne_r3 ne_l3 lt_s3 le_s3 ne_r4 ne_l4 lt_s4 le_s4 ne_r5 ne_l5 lt_s5 le_s5 ne_r6 ne_l6 lt_s6 le_s6 ne_r7 ne_l7 lt_s7 le_s7
theorem plain_E1 : Plain E1 := ⟨fun f h1 _ => by
  simp only [E1, pureHooks]
  split
  · cases h1
  · rfl⟩
theorem pl_alike : planOf Try.prog (drawN Try.f9 0) = some [none, none, none, none, none, none, none, none, none, none, none, none, none, none, none, none, (some (1, 1)), none, none, none, none] := by decide +kernel
/-- What both hand back. -/
theorem RetPar.both {H : Heap} {e : Ex} {s : PS} {o : Out} {H' : Heap} (h : RetPar H e s o H') : ∃ cs, o = .val (.tuple #[.agg ⟨cs⟩, .int .i64 (if s.c = 0 then s.p else 0 : Nat), .agg ⟨[.int .i64 (if s.c = 0 then 0 else s.c), .int .i64 (if s.c = 0 then 0 else s.a)]⟩]) ∧ Same (fun _ => False) H H' ∧ RE H' (fun i => H.n ≤ i) (if s.c = 0 then e else .zero) cs := by
  obtain ⟨k, h⟩ := h
  by_cases hc : s.c = 0
  · simp only [hc, if_true] at h ⊢
    obtain ⟨cs, rfl, h⟩ := h
    exact ⟨cs, rfl, k, h⟩
  · simp only [hc, if_false] at h ⊢
    subst h
    exact ⟨_, rfl, k, RE.nil _ _ _ _ _ _ _⟩
theorem c_alike (args : List Value) (H : Heap) : (run Try.prog E1).call 9 args H = callB Try.prog E1 Try.f9 args H := call_B Try.func9 rfl (by decide +kernel) rfl args H
theorem alike_run {H : Heap} {lid tl : Nat} {L : List Tk} {p : Nat} {lv : Int} (hL : H.get lid = .row true tl 4 (flatT L)) (hsm : L.length ≤ 10000) (hp : p ≤ L.length) (h0 : 0 ≤ lv) (h24 : lv ≤ 24) :
    ∃ H', (run Try.prog E1).call 9 [.slice (some ⟨lid, 0, none⟩) L.length L.length, .int .i64 p, .int .i64 lv] H = some (.val (.bool true), H') := by
  suffices key : Gives ((run Try.prog E1).call 9 [.slice (some ⟨lid, 0, none⟩) L.length L.length, .int .i64 p, .int .i64 lv] H) fun o _ => o = .val (.bool true) by
    obtain ⟨o, H', e, rfl⟩ := key
    exact ⟨H', e⟩
  obtain ⟨n, ⟨e, s⟩, hx⟩ := (row_ans L ⟨p, 0, 0⟩ lv).some
  obtain ⟨o1, H1, e1, hR1⟩ := par_walk plain_E1 hL (by omega) hp h0 h24 hx
  obtain ⟨cs1, rfl, k1, r1⟩ := hR1.both
  obtain ⟨a1, b1, c1, d1, y1, w1, m1, f1, rfl⟩ := RE.shape r1
  generalize hn : (if s.c = 0 then s.p else 0 : Nat) = q at *
  generalize hfc : (if s.c = 0 then 0 else s.c) = fc at *
  generalize hfa : (if s.c = 0 then 0 else s.a) = fa at *
  obtain ⟨H2, hH2⟩ : ∃ H2, H2 = (((H1.push (.row true 0 1 [.int .i64 0, .int .i64 0, .int .i64 0, .int .i64 0, .string ByteArray.empty, .slice none 0 0])).push (.row true 0 1 [.int .i64 0, .int .i64 0])).set H1.n (.row true 0 1 [.int .i64 a1, .int .i64 b1, .int .i64 c1, .int .i64 d1, .string y1, .slice w1 m1 f1])).set (H1.n + 1) (.row true 0 1 [.int .i64 fc, .int .i64 fa]) := ⟨_, rfl⟩
  have k2 : Same (fun _ => False) H1 H2 := by rw [hH2]; exact (((Same.push _ _ _).then_push _).then_set (by simp) (.inr (Nat.le_refl _)) _).then_set (by simp) (.inr (by omega)) _
  have n2 : H2.n = H1.n + 1 + 1 := by rw [hH2]; rfl
  obtain ⟨o3, H3, e3, hR3, hpl⟩ := ref_walk plain_E1 ((k1.then0 k2).at hL (by simp) (fun h => h)) (by omega) hp h0 h24 hx
  obtain ⟨cs3, rfl, k3, r3⟩ := hR3.both
  simp only [hn, hfc, hfa] at e3
  obtain ⟨a3, b3, c3, d3, y3, w3, m3, f3, rfl⟩ := RE.shape r3
  have n3 := k3.n
  have gA : H2.get H1.n = .row true 0 1 [.int .i64 a1, .int .i64 b1, .int .i64 c1, .int .i64 d1, .string y1, .slice w1 m1 f1] := by rw [hH2, gsn _ (by omega), Heap.get_set_self _ _ (by simp)]
  have gB : H2.get (H1.n + 1) = .row true 0 1 [.int .i64 fc, .int .i64 fa] := by rw [hH2, Heap.get_set_self _ _ (by simp)]
  have gA3 := k3.at gA (by simp) (fun h => h)
  have gB3 := k3.at gB (by simp) (fun h => h)
  obtain ⟨H4, hH4⟩ : ∃ H4, H4 = (((H3.push (.row true 0 1 [.int .i64 0, .int .i64 0, .int .i64 0, .int .i64 0, .string ByteArray.empty, .slice none 0 0])).push (.row true 0 1 [.int .i64 0, .int .i64 0])).set H3.n (.row true 0 1 [.int .i64 a3, .int .i64 b3, .int .i64 c3, .int .i64 d3, .string y3, .slice w3 m3 f3])).set (H3.n + 1) (.row true 0 1 [.int .i64 fc, .int .i64 fa]) := ⟨_, rfl⟩
  have k4 : Same (fun _ => False) H3 H4 := by rw [hH4]; exact (((Same.push _ _ _).then_push _).then_set (by simp) (.inr (Nat.le_refl _)) _).then_set (by simp) (.inr (by omega)) _
  have n4 : H4.n = H3.n + 1 + 1 := by rw [hH4]; rfl
  have gC : H4.get H3.n = .row true 0 1 [.int .i64 a3, .int .i64 b3, .int .i64 c3, .int .i64 d3, .string y3, .slice w3 m3 f3] := by rw [hH4, gsn _ (by omega), Heap.get_set_self _ _ (by simp)]
  have gD : H4.get (H3.n + 1) = .row true 0 1 [.int .i64 fc, .int .i64 fa] := by rw [hH4, Heap.get_set_self _ _ (by simp)]
  have gA4 := k4.at gA3 (by simp) (fun h => h)
  have gB4 := k4.at gB3 (by simp) (fun h => h)
  have thin : Thin (if s.c = 0 then e else .zero) := by
    split
    · exact x_thin L n _ _ _ _ hx (fun k lv x h => by cases h)
    · exact thin_zero
  have size : (placesE (if s.c = 0 then e else .zero)).length ≤ 100000 := by
    have := x_size L n _ _ _ _ hx
    simp only [] at this
    split
    · rename_i hc; rw [del_ok hc] at this; omega
    · show 1 ≤ 100000; omega
  generalize (if s.c = 0 then e else .zero) = x at *
  have r4 := RE.move ((k2.then0 k3).then0 k4) (S' := fun i => H.n ≤ i) (fun i hi _ => ⟨hi, fun h => h⟩) _ _ r1
  have r5 := RE.move k4 (S' := fun i => H2.n ≤ i) (fun i hi _ => ⟨hi, fun h => h⟩) _ _ r3
  obtain ⟨o5, H5, e5, rfl, k5⟩ := same_run plain_E1 _ x (Nat.lt_succ_self _) x H4 _ _ _ _ thin thin r4 r5
  rw [sameE_refl] at e5
  have r6 := RE.move k5 (S' := fun i => H.n ≤ i) (fun i hi _ => ⟨hi, fun h => h⟩) _ _ r4
  have r7 := RE.move k5 (S' := fun i => H2.n ≤ i) (fun i hi _ => ⟨hi, fun h => h⟩) _ _ r5
  have gA5 := k5.at gA4 (by simp) (fun h => h)
  have gC5 := k5.at gC (by simp) (fun h => h)
  obtain ⟨v6, H6, e6, i6, k6⟩ := all_places plain_E1 x thin r6 size
  have gC6 := k6.at gC5 (by simp) (fun h => h)
  have gA6 := k6.at gA5 (by simp) (fun h => h)
  obtain ⟨v7, H7, e7, i7, k7⟩ := all_places plain_E1 x thin (RE.move k6 (S' := fun i => H2.n ≤ i) (fun i hi _ => ⟨hi, fun h => h⟩) _ _ r7) size
  have i8 : IntsAt H7 v6 (placesE x) := i6.imp (fun h => h) fun ⟨id, tl, q1, q2, q3⟩ => ⟨id, tl, q1, q2, k7.at q3 (by simp) (fun h => h)⟩
  have e8 := ints_run plain_E1 i8 i7 size size
  obtain ⟨b6, l6, c6, rfl⟩ : ∃ b l c, v6 = .slice b l c := by rcases i6 with ⟨rfl, _⟩ | ⟨_, _, rfl, _⟩ <;> exact ⟨_, _, _, rfl⟩
  obtain ⟨b7, l7, c7, rfl⟩ : ∃ b l c, v7 = .slice b l c := by rcases i7 with ⟨rfl, _⟩ | ⟨_, _, rfl, _⟩ <;> exact ⟨_, _, _, rfl⟩
  rw [decide_eq_true rfl] at e8
  have gC7 := k7.at gC6 (by simp) (fun h => h)
  rw [c_alike, callB, bodyOf]
  simp [Try.f9, e1]
  rw [← hH2]
  simp [e3]
  rw [← hH4]
  refine region_plan (by exact pl_alike) ?_
  simp [fault_eql, gA4, gB4, gC, gD, e5, gA5, gC5, e6, gC6, gA6, e7, e8, gC7]
theorem c_All1 (args : List Value) (H : Heap) : (run Try.prog E1).call 8 args H = callB Try.prog E1 Try.f8 args H := call_B Try.func8 rfl (by decide +kernel) rfl args H
/-- No bytes at all. -/
theorem all_nil (H : Heap) : ∃ K id tl, (run Try.prog E1).call 8 [.slice none 0 0] H = some (.val (.tuple #[.slice (some ⟨id, 0, none⟩) 1 1, .agg #[.int .i64 0, .int .i64 0]]), K) ∧ K.get id = .row true tl 4 (flatT [⟨5, 0, 0, ByteArray.empty⟩]) := by
  suffices key : Gives ((run Try.prog E1).call 8 [.slice none 0 0] H) fun o K => ∃ id tl, o = .val (.tuple #[.slice (some ⟨id, 0, none⟩) 1 1, .agg #[.int .i64 0, .int .i64 0]]) ∧ K.get id = .row true tl 4 (flatT [⟨5, 0, 0, ByteArray.empty⟩]) by
    obtain ⟨o, K, e, id, tl, rfl, h⟩ := key
    exact ⟨K, id, tl, e, h⟩
  rw [c_All1, callB, bodyOf]
  simp [Try.f8]
  refine loop_wp (fun m t K => rd t 5 = .int .i64 0 ∧ rd t 4 = .slice (some ⟨H.n + 1, 0, none⟩) 0 0 ∧ K = (H.push (.row true 0 1 [.int .i64 0, .int .i64 0])).push (.row true 0 4 [])) 0 ?_ ?_
  · exact ⟨by simp, by simp, rfl⟩
  rintro m t K hk ⟨g5, g4, rfl⟩
  have ht : t.length = 193 := hk.1.trans (by simp [len_Bs])
  have hh := hk.all [0, 3] (by decide +kernel)
  simp at hh
  obtain ⟨t0, t3⟩ := hh
  obtain ⟨H2, e1, e2, e3, e4⟩ := app_one tf_tok (H := ((H.push (.row true 0 1 [.int .i64 0, .int .i64 0])).push (.row true 0 4 [])).push (.row true 0 4 [.int .i64 5, .int .i64 0, .int .i64 0, .string ByteArray.empty])) (id := H.n + 1) (tl := 0) (n := 0) (xid := H.n + 1 + 1) (cs := []) (c := [.int .i64 5, .int .i64 0, .int .i64 0, .string ByteArray.empty]) (xt := 0) (xe := 4) (xo := true) (xc := 1)
    (by rw [Heap.get_push, if_neg (by simp)]; exact Heap.get_push_self _ _) rfl (by omega) rfl (by exact Heap.get_push_self _ _) (by omega)
  simp only [Heap.n_push] at e1 e2 e3
  have g1 : H2.get H.n = .row true 0 1 [.int .i64 0, .int .i64 0] := e4.at (by rw [Heap.get_push, if_neg (by simp), Heap.get_push, if_neg (by simp), Heap.get_push_self]) (by simp) (by omega)
  simp [ht, g5, g4, t0, t3, e1, g1, show H.n < H2.n by omega]
  exact ⟨1, e2⟩
theorem c_Parses (args : List Value) (H : Heap) : (run Try.prog E1).call 3 args H = callB Try.prog E1 Try.f3 args H := call_B Try.func3 rfl (by decide +kernel) rfl args H
/-- The bytes of a law's slice. -/
theorem flat_bytes {k : Nat} {x : Value} {o : AObj} (fa : FlatArg (isInt .u8) 1 k x o) {H : Heap} (hH : H.get k = o) :
    x = .slice none 0 0 ∨ ∃ (src : List UInt8) (cap : Nat), x = .slice (some ⟨k, 0, none⟩) src.length cap ∧ BS H k 0 cap src := by
  obtain ⟨base, len, cap, cs, rfl, h1, h2, h3, h4, h5⟩ := fa
  rcases h5 with ⟨rfl, rfl, rfl, rfl⟩ | ⟨rfl, rfl⟩
  · exact .inl rfl
  · right
    have hb : ∀ cs : List Value, (∀ c ∈ cs, isInt .u8 c) → ∃ src : List UInt8, cs = src.map byteC := by
      intro cs
      induction cs with
      | nil => intro _; exact ⟨[], rfl⟩
      | cons c cs ih =>
        intro h
        obtain ⟨src, hs⟩ := ih fun c hc => h c (by simp [hc])
        obtain ⟨n, hn, h0, h255⟩ := h c (by simp)
        refine ⟨UInt8.ofNat n.toNat :: src, ?_⟩
        have e0 : IntKind.u8.min = 0 := rfl
        have e1 : IntKind.u8.max = 255 := rfl
        rw [e0] at h0
        rw [e1] at h255
        simp only [List.map_cons, byteC, ← hs, hn, List.cons.injEq, and_true]
        congr 1
        rw [UInt8.toNat_ofNat']
        omega
    obtain ⟨src, rfl⟩ := hb cs h4
    simp at h3
    refine ⟨src.take len, cap, ?_, false, 0, 0, _, hH, by simp; omega, by simp; omega, ?_⟩
    · simp only [List.length_take, show min len src.length = len by omega]
    · simp only [List.length_take, show min len src.length = len by omega, List.drop_zero, List.map_take]
theorem parses_walk (x : Value) (o : AObj) (fa : FlatArg (isInt .u8) 1 0 x o) (at_ : Int) (w1 : Lit.wf (.int .i64 at_) = true) (lv : Int) (w2 : Lit.wf (.int .i64 lv) = true) :
    Gives ((run Try.prog E1).call 3 [x, .int .i64 at_, .int .i64 lv] (Heap.empty.push o)) fun o _ => o = .val (.bool true) := by
  have aw := awake_true
  obtain ⟨l, l0, l1, el⟩ := within_any plain_E1 w2 1 24 (by omega) (by omega) (by omega)
  rw [c_Parses, callB, bodyOf]
  rcases flat_bytes fa (show (Heap.empty.push o).get 0 = o from Heap.get_push_self _ _) with rfl | ⟨src, cap, rfl, hb⟩
  · obtain ⟨K, id, tl, e1, hg⟩ := all_nil (Heap.empty.push o)
    have hid2 := Heap.lt_of_get hg (by simp)
    obtain ⟨k, k0, k1', ek⟩ := within_any plain_E1 w1 0 0 (by omega) (by omega) (by omega)
    obtain ⟨H', e3⟩ := alike_run (H := K.push (.row true 0 1 [.int .i64 0, .int .i64 0])) (lid := id) (tl := tl) (L := [⟨5, 0, 0, ByteArray.empty⟩]) (p := k) (lv := l) (by rw [Heap.get_push, if_neg (by omega)]; exact hg) (by simp) (by simp; omega) (by omega) (by omega)
    simp at e3
    have hw0 : IntKind.i64.wrap 0 = 0 := rfl
    simp [Try.f3, e1, hw0, ek, el, e3, aw]
  · have hcap : src.length ≤ cap := by obtain ⟨_, _, _, _, _, _, h, _⟩ := hb; exact h
    by_cases hlen : 1500 < src.length
    · simp [Try.f3, show (1500 : Int) < src.length by omega, aw]
    obtain ⟨res, hres⟩ := lex_ans src (src.length + 1) 0 [] (Nat.zero_le _) (by omega)
    obtain ⟨o1, K, e1, k1, hR⟩ := all_walk plain_E1 hb (by omega) hres
    cases res with
    | inr f =>
      obtain ⟨c, a⟩ := f
      have hc := lexFrom_bad hres
      simp only [] at hR
      subst hR
      simp [Try.f3, show ¬ (1500 : Int) < src.length by omega, e1, hc, aw]
    | inl L =>
      obtain ⟨id, hid, rfl, tl, htl, hg⟩ := hR
      have hll := lexFrom_len hres
      have hl1 := lexFrom_pos hres
      simp at hll
      obtain ⟨k, k0, k1', ek⟩ := within_any plain_E1 w1 0 (L.length - 1) (by omega) (by omega) (by omega)
      have hid2 := Heap.lt_of_get hg (by simp)
      obtain ⟨H', e3⟩ := alike_run (H := K.push (.row true 0 1 [.int .i64 0, .int .i64 0])) (lid := id) (tl := tl) (L := L) (p := k) (lv := l) (by rw [Heap.get_push, if_neg (by omega)]; exact hg) (by omega) (by omega) (by omega) (by omega)
      have hw := wrap64 ((L.length : Int) - 1) (by omega) (by omega)
      simp [Try.f3, show ¬ (1500 : Int) < src.length by omega, e1, hw, ek, el, e3, aw]
end Go.Vm.Ex
