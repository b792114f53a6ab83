/- What is proved: 'signalboxlaw2.StorePlays' hands back true, whatever the input. -/
import Derived.Test.YtifbhohifhnkiaaStoreRef
import Derived.Test.YtifbhohifhnkiaaVmN
namespace Go.Vm.StoreLaw
open Go Go.Proofs
set_option maxRecDepth 100000
set_option linter.unusedSimpArgs false
attribute [local simp] rd_Fr

def iv (z : Int) : Value := .int .i64 z
/-- Two stores of the same words, apart, and the steps. -/
structure Two (H : Heap) (p q p2 q2 : Nat) (zs : List Int) (ls : List Value) : Prop where
  one : IsStore H p q (zs.map iv)
  two : IsStore H p2 q2 (zs.map iv)
  a1 : q ≠ p2
  a2 : q ≠ q2
  a3 : q2 ≠ p
  l0 : p ≠ 0 ∧ q ≠ 0 ∧ p2 ≠ 0 ∧ q2 ≠ 0
  steps : H.get 0 = .row false 0 0 ls

theorem plan22 : planOf Try.prog (drawN Try.f3 2) = some [none, none, some (0, 1), some (0, 1), some (0, 1), some (0, 1), some (0, 1), none, none, none, none, some (1, 1), some (1, 1), some (1, 1), some (1, 1), none, none, none] := by decide +kernel

theorem reg22 (n : Nat) (hn : n ≤ 8192) (p q p2 q2 : Nat) (zs : List Int) (hz : zs.length = n) (ls : List Value) (id : Nat)
    (t : List Value) (H : Heap) (ht : t.length = 134) (h5 : rd t 5 = .pointer (some ⟨p, 0, none⟩)) (h7 : rd t 7 = .pointer (some ⟨p2, 0, none⟩)) (hT : Two H p q p2 q2 zs ls) :
    Ends (W.code (.region id ⟨drawN Try.f3 2⟩ true) ⟨t, []⟩ H) fun e s H' => e = .normal ∧ s.ds = [] ∧ rd s.t 132 = .bool false ∧ Two H' p q p2 q2 zs ls := by
  have hl : (zs.map iv).length = n := by simp [hz]
  have e1 := len_run hT.one
  obtain ⟨o, H1, e2, a, c, tl, rfl, hg, ha, hs⟩ := words_run hT.one (by omega)
  have T1 : Two H1 p q p2 q2 zs ls := ⟨hT.one.same hs (by simp) (by simp), hT.two.same hs (by simp) (by simp), hT.a1, hT.a2, hT.a3, hT.l0, hs.at hT.steps (by simp) (by simp)⟩
  have e3 := ints_true H1 a 0 q2 0 n c n (zs.map iv) (zs.map iv) (fun j => zs.getD j 0) (by omega) (by rw [hg]; rfl) (by rw [T1.two.words]; rfl) (by intro j hj; simp [iv, hz, hj]) (by intro j hj; simp [iv, hz, hj])
  rw [hl] at e1 e2
  rw [← Fr_nil t, code_plan (ops := ⟨drawN Try.f3 2⟩) plan22]
  have s0 := hT.two.store
  have s1 := T1.two.store
  rw [hl] at s0 s1
  simp [drawN, Try.f3, drawsOf, ht, h5, h7, e1, e2, e3, s0, s1]
  exact T1

theorem plan20 : planOf Try.prog (drawN Try.f3 0) = some [none, none, none, none, none, none, some (0, 1), some (0, 1), some (0, 1), some (0, 1), some (0, 1), none, none] := by decide +kernel
theorem plan12 : planOf Try.prog (drawN Try.f3 1) = some [none, none, none, none, none, none, some (0, 1), some (0, 1), some (0, 1), some (0, 1), some (0, 1), none, none] := by decide +kernel

theorem reg20 (p p2 xr : Nat) (k a b : Int) (ok : Bool) (H H1 H2 : Heap) (id : Nat) (t : List Value) (ht : t.length = 134) (h5 : rd t 5 = .pointer (some ⟨p, 0, none⟩)) (h7 : rd t 7 = .pointer (some ⟨p2, 0, none⟩)) (h10 : rd t 10 = .pointer (some ⟨xr, 0, none⟩))
    (hx : H.get xr = .row true 0 1 [.int .i64 k, .int .i64 a, .int .i64 b]) (hx1 : H1.get xr = .row true 0 1 [.int .i64 k, .int .i64 a, .int .i64 b])
    (e1 : W.call 20 [.pointer (some ⟨p, 0, none⟩), .int .i64 a, .int .i64 b] H = some (.val (.bool ok), H1)) (e2 : W.call 21 [.pointer (some ⟨p2, 0, none⟩), .int .i64 a, .int .i64 b] H1 = some (.val (.bool ok), H2)) :
    Ends (W.code (.region id ⟨drawN Try.f3 0⟩ true) ⟨t, []⟩ H) fun e s H' => e = .normal ∧ s.ds = [] ∧ rd s.t 114 = .bool false ∧ H' = H2 := by
  rw [← Fr_nil t, code_plan (ops := ⟨drawN Try.f3 0⟩) plan20]
  simp [drawN, Try.f3, drawsOf, ht, h5, h7, h10, hx, hx1, e1, e2]
theorem reg12 (p p2 xr : Nat) (k a b : Int) (ok : Bool) (H H1 H2 : Heap) (id : Nat) (t : List Value) (ht : t.length = 134) (h5 : rd t 5 = .pointer (some ⟨p, 0, none⟩)) (h7 : rd t 7 = .pointer (some ⟨p2, 0, none⟩)) (h10 : rd t 10 = .pointer (some ⟨xr, 0, none⟩))
    (hx : H.get xr = .row true 0 1 [.int .i64 k, .int .i64 a, .int .i64 b]) (hx1 : H1.get xr = .row true 0 1 [.int .i64 k, .int .i64 a, .int .i64 b])
    (e1 : W.call 22 [.pointer (some ⟨p, 0, none⟩), .int .i64 a, .int .i64 b] H = some (.val (.bool ok), H1)) (e2 : W.call 23 [.pointer (some ⟨p2, 0, none⟩), .int .i64 a, .int .i64 b] H1 = some (.val (.bool ok), H2)) :
    Ends (W.code (.region id ⟨drawN Try.f3 1⟩ true) ⟨t, []⟩ H) fun e s H' => e = .normal ∧ s.ds = [] ∧ rd s.t 75 = .bool false ∧ H' = H2 := by
  rw [← Fr_nil t, code_plan (ops := ⟨drawN Try.f3 1⟩) plan12]
  simp [drawN, Try.f3, drawsOf, ht, h5, h7, h10, hx, hx1, e1, e2]

theorem Two.turn {H H' : Heap} {p q p2 q2 : Nat} {zs zs' : List Int} {ls : List Value} (h : Two H p q p2 q2 zs ls) (hs : Same (fun i => i = q ∨ i = q2) H H') (h1 : IsStore H' p q (zs'.map iv)) (h2 : IsStore H' p2 q2 (zs'.map iv)) : Two H' p q p2 q2 zs' ls :=
  ⟨h1, h2, h.a1, h.a2, h.a3, h.l0, hs.at h.steps (by simp) (by intro e; rcases e with e | e; exact h.l0.2.1 e.symm; exact h.l0.2.2.2 e.symm)⟩

theorem put_pair {H : Heap} {p q p2 q2 : Nat} {zs : List Int} {ls : List Value} {n : Nat} (hn : n ≤ 8192) (hz : zs.length = n) (hT : Two H p q p2 q2 zs ls) (a b : Int) :
    ∃ ok H1 H2 zs', W.call 20 [.pointer (some ⟨p, 0, none⟩), .int .i64 a, .int .i64 b] H = some (.val (.bool ok), H1) ∧ W.call 21 [.pointer (some ⟨p2, 0, none⟩), .int .i64 a, .int .i64 b] H1 = some (.val (.bool ok), H2) ∧
      zs'.length = n ∧ Two H2 p q p2 q2 zs' ls ∧ Same (· = q) H H1 := by
  have hl : (zs.map iv).length = n := by simp [hz]
  by_cases c1 : a < 0
  · exact ⟨_, _, _, zs, put_lt hT.one a b c1, rput_lt hT.two a b c1, hz, hT, Same.refl _ _⟩
  by_cases c2 : (n : Int) ≤ a
  · exact ⟨_, _, _, zs, put_ge hT.one a b (by omega), rput_ge hT.two a b (by omega), hz, hT, Same.refl _ _⟩
  · obtain ⟨a, rfl⟩ : ∃ m : Nat, a = m := ⟨a.toNat, by omega⟩
    have e1 := put_in hT.one a b (by omega)
    have f1 : Same (· = q) H (H.set q (.row true 0 1 ((zs.map iv).set a (.int .i64 b)))) := Same.set (X := (· = q)) _ hT.one.lt rfl _
    have S2 := hT.two.same f1 (fun e => hT.a1 e.symm) (fun e => hT.a2 e.symm)
    have S1 := hT.one.set ((zs.map iv).set a (.int .i64 b)) (by simp)
    have e2 := rput_in S2 a b (by omega)
    have f2 := Same.set (X := (· = q2)) (i := q2) _ S2.lt rfl (.row true 0 1 ((zs.map iv).set a (.int .i64 b)))
    have em : (zs.map iv).set a (.int .i64 b) = (zs.set a b).map iv := by rw [List.map_set]; rfl
    refine ⟨_, _, _, zs.set a b, e1, e2, by simp [hz], ?_, f1⟩
    refine hT.turn ((f1.mono fun i h => .inl h).trans (f2.mono fun i h => .inr h)) ?_ ?_
    · rw [← em]; exact S1.same f2 (fun e => hT.a3 e.symm) hT.a2
    · rw [← em]; exact S2.set _ (by simp)

theorem clear_pair {H : Heap} {p q p2 q2 : Nat} {zs : List Int} {ls : List Value} {n : Nat} (hn : n ≤ 8192) (hz : zs.length = n) (hT : Two H p q p2 q2 zs ls) (a b : Int) :
    ∃ ok H1 H2 zs', W.call 22 [.pointer (some ⟨p, 0, none⟩), .int .i64 a, .int .i64 b] H = some (.val (.bool ok), H1) ∧ W.call 23 [.pointer (some ⟨p2, 0, none⟩), .int .i64 a, .int .i64 b] H1 = some (.val (.bool ok), H2) ∧
      zs'.length = n ∧ Two H2 p q p2 q2 zs' ls ∧ Same (· = q) H H1 := by
  have hl : (zs.map iv).length = n := by simp [hz]
  by_cases c : 0 ≤ a ∧ a ≤ n ∧ 0 ≤ b ∧ b ≤ n - a
  · obtain ⟨c1, c2, c3, c4⟩ := c
    obtain ⟨a, rfl⟩ : ∃ m : Nat, a = m := ⟨a.toNat, by omega⟩
    obtain ⟨b, rfl⟩ : ∃ m : Nat, b = m := ⟨b.toNat, by omega⟩
    obtain ⟨o, H1, e1, rfl, S1, f1⟩ := clear_ok hT.one a b (by omega) (by omega)
    have S2 := hT.two.same f1 (fun e => hT.a1 e.symm) (fun e => hT.a2 e.symm)
    obtain ⟨o, H2, e2, rfl, S3, f2⟩ := rclear_ok S2 a b (by omega) (by omega)
    have em : writeAt (zs.map iv) a (List.replicate b (.int .i64 0)) = (zs.take a ++ (List.replicate b 0 ++ zs.drop (a + b))).map iv := by
      simp [writeAt, iv, List.map_take, List.map_drop]
    refine ⟨_, _, _, zs.take a ++ (List.replicate b 0 ++ zs.drop (a + b)), e1, e2, by simp [hz]; omega, ?_, f1⟩
    refine hT.turn ((f1.mono fun i h => .inl h).trans (f2.mono fun i h => .inr h)) ?_ ?_
    · rw [← em]; exact S1.same f2 (fun e => hT.a3 e.symm) hT.a2
    · rw [← em]; exact S3
  · exact ⟨_, _, _, zs, clear_no hT.one a b (by omega) (by rw [hl]; exact c), rclear_no hT.two a b (by omega) (by rw [hl]; exact c), hz, hT, Same.refl _ _⟩

theorem step_body (n : Nat) (hn : n ≤ 8192) (p q p2 q2 : Nat) (zs : List Int) (hz : zs.length = n) (ls : List Value) (len cap : Nat) (hl : len ≤ 60) (i : Nat) (hi : i < len) (k a b : Int) (hk : ls[i * 3]? = some (iv k)) (ha : ls[i * 3 + 1]? = some (iv a)) (hb : ls[i * 3 + 2]? = some (iv b))
    (hlen : i * 3 + 3 ≤ ls.length) (hdt : (ls.drop (i * 3)).take 3 = [iv k, iv a, iv b])
    (t : List Value) (H : Heap) (ht : t.length = 134) (h1 : rd t 1 = .slice (some ⟨0, 0, none⟩) len cap) (h5 : rd t 5 = .pointer (some ⟨p, 0, none⟩)) (h7 : rd t 7 = .pointer (some ⟨p2, 0, none⟩)) (h9 : rd t 9 = .int .i64 i) (hT : Two H p q p2 q2 zs ls) :
    Ends (W.code (loopN Try.f3 0) ⟨Fr t [], []⟩ H) fun e s H' => e = .normal ∧ s.ds = [] ∧ rd s.t 9 = .int .i64 ((i : Int) + 1) ∧ ∃ zs', zs'.length = n ∧ Two H' p q p2 q2 zs' ls := by
  have hH := Heap.lt_of_get hT.steps (by simp)
  have T1 : Two (H.push (.row true 0 1 [.int .i64 k, .int .i64 a, .int .i64 b])) p q p2 q2 zs ls :=
    ⟨hT.one.push _, hT.two.push _, hT.a1, hT.a2, hT.a3, hT.l0, by rw [Heap.get_push_lt _ _ hH]; exact hT.steps⟩
  have hone := hT.one.lt
  by_cases k0 : k = 0
  · subst k0
    have e1 : ∃ z ok, W.call 18 [.pointer (some ⟨p, 0, none⟩), .int .i64 a] (H.push (.row true 0 1 [.int .i64 0, .int .i64 a, .int .i64 b])) = some (.val (.tuple #[.int .i64 z, .bool ok]), H.push (.row true 0 1 [.int .i64 0, .int .i64 a, .int .i64 b])) ∧
        W.call 19 [.pointer (some ⟨p2, 0, none⟩), .int .i64 a] (H.push (.row true 0 1 [.int .i64 0, .int .i64 a, .int .i64 b])) = some (.val (.tuple #[.int .i64 z, .bool ok]), H.push (.row true 0 1 [.int .i64 0, .int .i64 a, .int .i64 b])) := by
      by_cases c1 : a < 0
      · exact ⟨_, _, get_lt T1.one a c1, rget_lt T1.two a c1⟩
      by_cases c2 : (n : Int) ≤ a
      · exact ⟨_, _, get_ge T1.one a (by simp [hz]; omega), rget_ge T1.two a (by simp [hz]; omega)⟩
      · obtain ⟨a, rfl⟩ : ∃ m : Nat, a = m := ⟨a.toNat, by omega⟩
        have hv : (zs.map iv)[a]? = some (.int .i64 (zs[a]'(by omega))) := by simp [iv]
        exact ⟨_, _, get_in T1.one a _ hv, rget_in T1.two a _ hv⟩
    obtain ⟨z, ok, e1, e2⟩ := e1
    simp [loopN, Try.f3, loopsOf, ht, h1, h5, h7, h9, hi, hT.steps, hlen, hdt, iv, e1, e2]
    refine Ends.after (reg22 n hn p q p2 q2 zs hz ls 22 _ _ ?_ ?_ ?_ T1) ?_
    · simp [ht]
    · simp [ht, h5]
    · simp [ht, h7]
    rintro e ⟨t', ds⟩ H' hr ⟨rfl, hd, h132, T2⟩
    have hk := kept_run hr
    have ht' : t'.length = 134 := hk.1.trans (by simp [ht])
    have h9' : rd t' 9 = .int .i64 i := (hk.2 9 (by decide)).trans (by simp [ht, h9])
    simp only at hd
    subst hd
    clear hk hr
    simp only at h132
    rw [← Fr_nil t']
    simp [ht', h132, h9', wrap64 ((i : Int) + 1) (by omega) (by omega)]
    exact ⟨zs, hz, T2⟩
  · have hx := Heap.get_push_self H (.row true 0 1 [.int .i64 k, .int .i64 a, .int .i64 b])
    have hq : H.n ≠ q := by omega
    by_cases k1 : k = 1
    · subst k1
      obtain ⟨ok, H1, H2, zs', e1, e2, hz', T2, f1⟩ := put_pair hn hz T1 a b
      have hx1 := f1.at hx (by simp) hq
      simp [loopN, Try.f3, loopsOf, ht, h1, h5, h7, h9, hi, hT.steps, hlen, hdt, iv]
      refine Ends.after (reg20 p p2 H.n 1 a b ok _ H1 H2 20 _ ?_ ?_ ?_ ?_ hx hx1 e1 e2) ?_
      · simp [ht]
      · simp [ht, h5]
      · simp [ht, h7]
      · simp [ht]
      rintro e ⟨t', ds⟩ H' hr ⟨rfl, hd, h114, rfl⟩
      have hk := kept_run hr
      have ht' : t'.length = 134 := hk.1.trans (by simp [ht])
      have g5 : rd t' 5 = .pointer (some ⟨p, 0, none⟩) := (hk.2 5 (by decide)).trans (by simp [ht, h5])
      have g7 : rd t' 7 = .pointer (some ⟨p2, 0, none⟩) := (hk.2 7 (by decide)).trans (by simp [ht, h7])
      have g9 : rd t' 9 = .int .i64 i := (hk.2 9 (by decide)).trans (by simp [ht, h9])
      simp only at hd h114
      subst hd
      clear hk hr
      rw [← Fr_nil t']
      simp [ht', h114]
      refine Ends.after (reg22 n hn p q p2 q2 zs' hz' ls 22 _ _ ?_ ?_ ?_ T2) ?_
      · simp [ht']
      · simp [ht', g5]
      · simp [ht', g7]
      rintro e ⟨t2, ds⟩ H3 hr ⟨rfl, hd, h132, T3⟩
      have hk := kept_run hr
      have ht2 : t2.length = 134 := hk.1.trans (by simp [ht'])
      have h92 : rd t2 9 = .int .i64 i := (hk.2 9 (by decide)).trans (by simp [ht', g9])
      simp only at hd h132
      subst hd
      clear hk hr
      rw [← Fr_nil t2]
      simp [ht2, h132, h92, wrap64 ((i : Int) + 1) (by omega) (by omega)]
      exact ⟨zs', hz', T3⟩
    · obtain ⟨ok, H1, H2, zs', e1, e2, hz', T2, f1⟩ := clear_pair hn hz T1 a b
      have hx1 := f1.at hx (by simp) hq
      simp [loopN, Try.f3, loopsOf, ht, h1, h5, h7, h9, hi, hT.steps, hlen, hdt, iv, k0, k1]
      refine Ends.after (reg12 p p2 H.n k a b ok _ H1 H2 12 _ ?_ ?_ ?_ ?_ hx hx1 e1 e2) ?_
      · simp [ht]
      · simp [ht, h5]
      · simp [ht, h7]
      · simp [ht]
      rintro e ⟨t', ds⟩ H' hr ⟨rfl, hd, h114, rfl⟩
      have hk := kept_run hr
      have ht' : t'.length = 134 := hk.1.trans (by simp [ht])
      have g5 : rd t' 5 = .pointer (some ⟨p, 0, none⟩) := (hk.2 5 (by decide)).trans (by simp [ht, h5])
      have g7 : rd t' 7 = .pointer (some ⟨p2, 0, none⟩) := (hk.2 7 (by decide)).trans (by simp [ht, h7])
      have g9 : rd t' 9 = .int .i64 i := (hk.2 9 (by decide)).trans (by simp [ht, h9])
      simp only at hd h114
      subst hd
      clear hk hr
      rw [← Fr_nil t']
      simp [ht', h114]
      refine Ends.after (reg22 n hn p q p2 q2 zs' hz' ls 22 _ _ ?_ ?_ ?_ T2) ?_
      · simp [ht']
      · simp [ht', g5]
      · simp [ht', g7]
      rintro e ⟨t2, ds⟩ H3 hr ⟨rfl, hd, h132, T3⟩
      have hk := kept_run hr
      have ht2 : t2.length = 134 := hk.1.trans (by simp [ht'])
      have h92 : rd t2 9 = .int .i64 i := (hk.2 9 (by decide)).trans (by simp [ht', g9])
      simp only at hd h132
      subst hd
      clear hk hr
      rw [← Fr_nil t2]
      simp [ht2, h132, h92, wrap64 ((i : Int) + 1) (by omega) (by omega)]
      exact ⟨zs', hz', T3⟩

theorem plays_loop (n : Nat) (hn : n ≤ 8192) (p q p2 q2 : Nat) (ls : List Value) (len cap : Nat) (hl : len ≤ 60) (hc : len ≤ cap) (hls : ls.length = cap * 3) (hint : ∀ c ∈ ls, isInt .i64 c) :
    ∀ m t H, (t.length = 134 ∧ rd t 1 = .slice (some ⟨0, 0, none⟩) len cap ∧ rd t 5 = .pointer (some ⟨p, 0, none⟩) ∧ rd t 7 = .pointer (some ⟨p2, 0, none⟩) ∧ ∃ i zs, i + m = len ∧ rd t 9 = .int .i64 (i : Nat) ∧ zs.length = n ∧ Two H p q p2 q2 zs ls) →
    Ends (W.code (.loop (loopN Try.f3 0)) ⟨t, []⟩ H) fun e s H' => e = .exit 0 ∧ s.ds = [] := by
  refine loop_ends _ ?_
  rintro m t H ⟨ht, h1, h5, h7, i, zs, hi, h9, hz, hT⟩
  by_cases hm : m = 0
  · subst hm
    obtain rfl : i = len := by omega
    rw [← Fr_nil t]
    simp [loopN, Try.f3, loopsOf, ht, h1, h7, h9]
  · have hil : i < len := by omega
    have hb : i * 3 + 3 ≤ ls.length := by omega
    obtain ⟨k, hk, _⟩ := hint ls[i * 3] (List.getElem_mem _)
    obtain ⟨a, ha, _⟩ := hint ls[i * 3 + 1] (List.getElem_mem _)
    obtain ⟨b, hb2, _⟩ := hint ls[i * 3 + 2] (List.getElem_mem _)
    have hdt : (ls.drop (i * 3)).take 3 = [iv k, iv a, iv b] := by
      rw [List.drop_eq_getElem_cons (by omega), List.drop_eq_getElem_cons (by omega), List.drop_eq_getElem_cons (by omega)]
      simp [iv, hk, ha, hb2]
    obtain ⟨e, s, H', hr, rfl, hd, g9, zs', hz', hT'⟩ := step_body n hn p q p2 q2 zs hz ls len cap hl i hil k a b (by rw [List.getElem?_eq_getElem (by omega), hk]; rfl) (by rw [List.getElem?_eq_getElem (by omega), ha]; rfl) (by rw [List.getElem?_eq_getElem (by omega), hb2]; rfl) hb hdt t H ht h1 h5 h7 h9 hT
    rw [Fr_nil] at hr
    have hk := kept_run hr
    refine ⟨_, _, _, hr, .inl ⟨rfl, hd, m - 1, by omega, hk.1.trans ht, (hk.2 1 (by decide)).trans h1, (hk.2 5 (by decide)).trans h5, (hk.2 7 (by decide)).trans h7, i + 1, zs', by omega, ?_, hz', hT'⟩⟩
    rw [g9]; simp

def H0 (ls : List Value) : Heap := Heap.empty.push (.row false 0 0 ls)
theorem H0_get (ls : List Value) : (H0 ls).get 0 = .row false 0 0 ls := Heap.get_push_self Heap.empty _
theorem H0_n (ls : List Value) : (H0 ls).n = 1 := rfl

theorem exit_loop (len cap : Nat) (base : Option Addr) (H : Heap) (t : List Value) (ht : t.length = 134) (h1 : rd t 1 = .slice base len cap) (h7 : rd t 7 = .pointer none ∨ len = 0) (h9 : rd t 9 = .int .i64 0) (h77 : ∃ x, rd t 7 = .pointer x) :
    Ends (W.code (.loop (loopN Try.f3 0)) ⟨t, []⟩ H) fun e s H' => e = .exit 0 ∧ s.ds = [] := by
  rw [code_loop, ← Fr_nil t]
  by_cases h0 : len = 0
  · subst h0
    simp [loopN, Try.f3, loopsOf, ht, h1, h9]
  · have h7 := h7.resolve_right h0
    simp [loopN, Try.f3, loopsOf, ht, h1, h7, h9, show 0 < len by omega]

theorem two_new (ls : List Value) (n : Nat) : Two (((((H0 ls).push (.row true 0 1 (repCells n [.int .i64 0]))).push (.row true 0 1 [.slice (some ⟨1, 0, none⟩) n n])).push (.row true 0 1 (repCells n [.int .i64 0]))).push (.row true 0 1 [.slice (some ⟨3, 0, none⟩) n n])) 2 1 4 3 (List.replicate n 0) ls := by
  have e : (List.replicate n (0 : Int)).map iv = List.replicate n (.int .i64 0) := by simp [iv]
  have h0 := H0_get ls
  have hn := H0_n ls
  constructor <;> first | (rw [e]; constructor <;> simp [Heap.get_push, hn, repCells_one]) | simp [Heap.get_push, hn, h0] | decide
theorem plays_run (n : Int) (len cap : Nat) (base : Option Addr) (ls : List Value) (o : AObj) (hb : (base = none ∧ len = 0) ∨ (base = some ⟨0, 0, none⟩ ∧ o = .row false 0 0 ls)) (hc : len ≤ cap) (hls : ls.length = cap * 3) (hint : ∀ c ∈ ls, isInt .i64 c) :
    Gives (W.call 3 [.int .i64 n, .slice base len cap] (Heap.empty.push o)) fun o _ => o = .val (.bool true) := by
  rw [call_fn Try.func3 rfl (by decide +kernel) rfl]
  by_cases c0 : (60 : Int) < len
  · simp [Try.f3, awake_true, c0]
  have ends : ∀ (t : List Value) (H : Heap) (e : ExA) (s : St) (H' : Heap), t.length = 134 → W.code (.loop (loopN Try.f3 0)) ⟨t, []⟩ H = some (e, s, H') → e = .exit 0 ∧ s.ds = [] → ∃ t', s = ⟨Fr t' [], []⟩ ∧ t'.length = 134 ∧ e = .exit 0 := by
    rintro t H e ⟨t', ds⟩ H' ht hr ⟨rfl, hd⟩
    simp only at hd
    subst hd
    exact ⟨t', by rw [Fr_nil], (kept_run hr).1.trans ht, rfl⟩
  by_cases c1 : n < 0 ∨ 8192 < n
  · by_cases c2 : 300 < n
    · simp [Try.f3, awake_true, c0, c2, show ¬ n ≤ 8192 by omega, new_bad _ n c1, rnew_bad _ n c1]
      refine (exit_loop len cap base _ _ ?_ ?_ ?_ ?_ ?_).after fun e s H' hr hx => ?_
      · simp [len_Bs]
      · simp
      · simp
      · simp
      · simp
      obtain ⟨t', rfl, ht', rfl⟩ := ends _ _ _ _ _ (by simp [len_Bs]) hr hx
      simp [ht', awake_true]
    · simp [Try.f3, awake_true, c0, c2, new_bad _ n c1, rnew_bad _ n c1]
      refine (exit_loop len cap base _ _ ?_ ?_ ?_ ?_ ?_).after fun e s H' hr hx => ?_
      · simp [len_Bs]
      · simp
      · simp
      · simp
      · simp
      obtain ⟨t', rfl, ht', rfl⟩ := ends _ _ _ _ _ (by simp [len_Bs]) hr hx
      simp [ht', awake_true]
  obtain ⟨n, rfl⟩ : ∃ m : Nat, n = m := ⟨n.toNat, by omega⟩
  by_cases c2 : 300 < n
  · simp [Try.f3, awake_true, c0, show (300 : Int) < n by omega, show (n : Int) ≤ 8192 by omega]
  simp [Try.f3, awake_true, c0, show ¬ (300 : Int) < n by omega, new_ok _ n (by omega), rnew_ok _ n (by omega), show Heap.empty.n = 0 from rfl]
  rcases hb with ⟨rfl, rfl⟩ | ⟨rfl, rfl⟩
  · refine (exit_loop 0 cap none _ _ ?_ ?_ ?_ ?_ ?_).after fun e s H' hr hx => ?_
    · simp [len_Bs]
    · simp
    · simp
    · simp
    · simp
    obtain ⟨t', rfl, ht', rfl⟩ := ends _ _ _ _ _ (by simp [len_Bs]) hr hx
    simp [ht', awake_true]
  · refine (plays_loop n (by omega) 2 1 4 3 ls len cap (by omega) hc hls hint len _ _ ⟨?_, ?_, ?_, ?_, 0, _, ?_, ?_, ?_, two_new ls n⟩).after fun e s H' hr hx => ?_
    · simp [len_Bs]
    · simp
    · simp
    · simp
    · omega
    · simp
    · simp
    obtain ⟨t', rfl, ht', rfl⟩ := ends _ _ _ _ _ (by simp [len_Bs]) hr hx
    simp [ht', awake_true]
theorem plays_walk (n : Int) (_ : Lit.wf (.int .i64 n) = true) (x : Value) (o : AObj) (fa : FlatArg (isInt .i64) 3 0 x o) : Gives (W.call 3 [.int .i64 n, x] (Heap.empty.push o)) fun o _ => o = .val (.bool true) := by
  obtain ⟨base, len, cap, cs, rfl, h1, _, h2, h3, h4⟩ := fa
  exact plays_run n len cap base cs o (h4.imp (fun h => ⟨h.1, h.2.2.1⟩) id) h1 h2 h3
end Go.Vm.StoreLaw
