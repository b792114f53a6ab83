/- What is defined and proved: the reference's table of names, in plain words and in the heap; its small functions. -/
import Derived.Test.YtbjcfdopkaekjaaTab9
namespace Go.Vm
set_option linter.unusedSimpArgs false
set_option linter.unusedVariables false
section
variable {α : Type}
/-- What stands at a place of a list. -/
theorem Rep.G_at (ρ : Rep α) {H : Heap} {S : Nat → Prop} {v : Value} {l : List α} (h : ρ.G H S v l) {k : Nat} (hk : k < l.length) :
    ∃ id tl cs, v = .slice (some ⟨id, 0, none⟩) l.length l.length ∧ S id ∧ id < H.n ∧ H.get id = .row true tl ρ.k cs ∧ cs.length = l.length * ρ.k ∧ ρ.R H (fun i => S i ∧ i ≠ id) l[k] ((cs.drop (k * ρ.k)).take ρ.k) ∧ k * ρ.k + ρ.k ≤ l.length * ρ.k := by
  rcases h with ⟨e1, e2⟩ | ⟨id, tl, cs, e1, _, e3, e4, e5⟩
  · rw [e2] at hk; cases hk
  · exact ⟨id, tl, cs, e1, e3, Heap.lt_of_get e4 (by simp), e4, ρ.L_len e5, ρ.L_get k hk e5, by rw [← Nat.succ_mul]; exact Nat.mul_le_mul_right _ hk⟩
theorem vid_some {id i : Nat} {n c : Nat} : vid (.slice (some ⟨id, 0, none⟩) n c) i ↔ id = i := Iff.rfl
end
theorem room6 (H : Heap) : Same (fun _ => False) H ((((((H.push .dead).push .dead).push .dead).push .dead).push .dead).push .dead) := (((((Same.push _ _ _).then_push _).then_push _).then_push _).then_push _).then_push _
section
variable {α β γ : Type}
/-- Three lists that each get one more, at places that were kept. -/
theorem app3 (ρ1 : Rep α) (ρ2 : Rep β) (ρ3 : Rep γ) {P : Program} {t1 t2 t3 : TypeId} (T1 : TF P t1 ρ1.k) (T2 : TF P t2 ρ2.k) (T3 : TF P t3 ρ3.k) {H R : Heap} (hR : Same (fun _ => False) H R) (hn : R.n = H.n + 6) {S1 S2 S3 : Nat → Prop}
    (hS1 : ∀ i, S1 i → i < H.n) (hS2 : ∀ i, S2 i → i < H.n) (hS3 : ∀ i, S3 i → i < H.n) (d12 : ∀ i, S1 i → ¬ S2 i) (d13 : ∀ i, S1 i → ¬ S3 i) (d23 : ∀ i, S2 i → ¬ S3 i)
    {v1 v2 v3 : Value} {l1 : List α} {l2 : List β} {l3 : List γ} (g1 : ρ1.G H S1 v1 l1) (g2 : ρ2.G H S2 v2 l2) (g3 : ρ3.G H S3 v3 l3) {a1 : α} {a2 : β} {a3 : γ} {c1 c2 c3 : List Value}
    (r1 : ρ1.R H (fun i => S1 i ∧ ¬ vid v1 i) a1 c1) (r2 : ρ2.R H (fun i => S2 i ∧ ¬ vid v2 i) a2 c2) (r3 : ρ3.R H (fun i => S3 i ∧ ¬ vid v3 i) a3 c3) (h1 : l1.length ≤ 100000) (h2 : l2.length ≤ 100000) (h3 : l3.length ≤ 100000) :
    ∃ H2 H4 H6, exAppendAt P [t1, t1] v1 (.slice (some ⟨H.n, 0, none⟩) 1 1) (H.n + 1) (R.set H.n (.row true 0 ρ1.k c1)) = some (.slice (some ⟨H.n + 1, 0, none⟩) (l1.length + 1) (l1.length + 1), H2) ∧
      exAppendAt P [t2, t2] v2 (.slice (some ⟨H.n + 2, 0, none⟩) 1 1) (H.n + 3) (H2.set (H.n + 2) (.row true 0 ρ2.k c2)) = some (.slice (some ⟨H.n + 3, 0, none⟩) (l2.length + 1) (l2.length + 1), H4) ∧
      exAppendAt P [t3, t3] v3 (.slice (some ⟨H.n + 4, 0, none⟩) 1 1) (H.n + 5) (H4.set (H.n + 4) (.row true 0 ρ3.k c3)) = some (.slice (some ⟨H.n + 5, 0, none⟩) (l3.length + 1) (l3.length + 1), H6) ∧
      Same (fun i => S1 i) H H2 ∧ Same (fun i => S1 i ∨ S2 i) H H4 ∧ Same (fun i => S1 i ∨ S2 i ∨ S3 i) H H6 ∧ H2.n = H.n + 6 ∧ H4.n = H.n + 6 ∧ H6.n = H.n + 6 ∧
      ρ1.G H6 (fun i => S1 i ∨ i = H.n + 1) (.slice (some ⟨H.n + 1, 0, none⟩) (l1.length + 1) (l1.length + 1)) (l1 ++ [a1]) ∧
      ρ2.G H6 (fun i => S2 i ∨ i = H.n + 3) (.slice (some ⟨H.n + 3, 0, none⟩) (l2.length + 1) (l2.length + 1)) (l2 ++ [a2]) ∧
      ρ3.G H6 (fun i => S3 i ∨ i = H.n + 5) (.slice (some ⟨H.n + 5, 0, none⟩) (l3.length + 1) (l3.length + 1)) (l3 ++ [a3]) := by
  have k1 : Same (fun i => i = H.n) R (R.set H.n (.row true 0 ρ1.k c1)) := Same.set (X := fun i => i = H.n) R (by omega) rfl _
  have v1S : ∀ i, vid v1 i → S1 i := fun i hi => (ρ1.G_lt g1 hi).2
  have v2S : ∀ i, vid v2 i → S2 i := fun i hi => (ρ2.G_lt g2 hi).2
  have v3S : ∀ i, vid v3 i → S3 i := fun i hi => (ρ3.G_lt g3 hi).2
  have z1 : ∀ i, S1 i → i < H.n → S1 i ∧ ¬ i = H.n := fun i hi hl => ⟨hi, by omega⟩
  have kR1 : Same (fun i => i = H.n) H (R.set H.n (.row true 0 ρ1.k c1)) := (hR.mono fun _ h => h.elim).trans k1
  obtain ⟨H2, e2, G2, q2, n2⟩ := ρ1.G_appAt T1 (ρ1.G_move kR1 z1 g1) (r := H.n + 1) (xid := H.n) (xc := 1) (by simp; omega) (fun h => by have := hS1 _ h; omega) h1 (a := a1) (c := c1) (Heap.get_set_self _ _ (by omega)) (ρ1.move kR1 (fun i hi hl => ⟨hi, by omega⟩) _ _ r1)
  simp at n2
  have k2 : Same (fun i => i = H.n + 2) H2 (H2.set (H.n + 2) (.row true 0 ρ2.k c2)) := Same.set (X := fun i => i = H.n + 2) H2 (by omega) rfl _
  have kH2 : Same (fun i => S1 i) H H2 := ⟨by omega, fun i hi hx => by
    rw [q2.get i (by simp; omega) (fun h => h.elim (fun h => hx (v1S i h)) (fun h => by omega)), k1.get i (by omega) (by omega), hR.get i hi (fun h => h)]⟩
  have kH2' : Same (fun i => S1 i ∨ i = H.n + 2) H (H2.set (H.n + 2) (.row true 0 ρ2.k c2)) := (kH2.mono fun _ h => .inl h).trans (k2.mono fun _ h => .inr h)
  obtain ⟨H4, e4, G4, q4, n4⟩ := ρ2.G_appAt T2 (ρ2.G_move kH2' (S' := S2) (fun i hi hl => ⟨hi, fun h => h.elim (fun h => d12 i h hi) (fun h => by omega)⟩) g2) (r := H.n + 3) (xid := H.n + 2) (xc := 1) (by simp; omega) (fun h => by have := hS2 _ h; omega) h2 (a := a2) (c := c2) (Heap.get_set_self _ _ (by omega)) (ρ2.move kH2' (fun i hi hl => ⟨hi, fun h => h.elim (fun h => d12 i h hi.1) (fun h => by omega)⟩) _ _ r2)
  simp at n4
  have kH4 : Same (fun i => S1 i ∨ S2 i) H H4 := ⟨by omega, fun i hi hx => by
    rw [q4.get i (by simp; omega) (fun h => h.elim (fun h => hx (.inr (v2S i h))) (fun h => by omega)), k2.get i (by omega) (by omega), kH2.get i hi (fun h => hx (.inl h))]⟩
  have k4 : Same (fun i => i = H.n + 4) H4 (H4.set (H.n + 4) (.row true 0 ρ3.k c3)) := Same.set (X := fun i => i = H.n + 4) H4 (by omega) rfl _
  have kH4' : Same (fun i => (S1 i ∨ S2 i) ∨ i = H.n + 4) H (H4.set (H.n + 4) (.row true 0 ρ3.k c3)) := (kH4.mono fun _ h => .inl h).trans (k4.mono fun _ h => .inr h)
  have no3 : ∀ i, S3 i → ¬ ((S1 i ∨ S2 i) ∨ i = H.n + 4) := fun i hi h => by
    rcases h with (h | h) | h
    · exact d13 i h hi
    · exact d23 i h hi
    · have := hS3 i hi; omega
  obtain ⟨H6, e6, G6, q6, n6⟩ := ρ3.G_appAt T3 (ρ3.G_move kH4' (S' := S3) (fun i hi hl => ⟨hi, no3 i hi⟩) g3) (r := H.n + 5) (xid := H.n + 4) (xc := 1) (by simp; omega) (fun h => by have := hS3 _ h; omega) h3 (a := a3) (c := c3) (Heap.get_set_self _ _ (by omega)) (ρ3.move kH4' (fun i hi hl => ⟨hi, no3 i hi.1⟩) _ _ r3)
  simp at n6
  refine ⟨H2, H4, H6, e2, e4, e6, kH2, kH4, ⟨by omega, fun i hi hx => by
    rw [q6.get i (by simp; omega) (fun h => h.elim (fun h => hx (.inr (.inr (v3S i h)))) (fun h => by omega)), k4.get i (by omega) (by omega), kH4.get i hi (fun h => hx (h.elim .inl (fun h => .inr (.inl h))))]⟩, by omega, by omega, by omega, ?_, ?_, G6⟩
  · have t : Same (fun i => i = H.n + 2 ∨ vid v2 i ∨ i = H.n + 3 ∨ i = H.n + 4 ∨ vid v3 i ∨ i = H.n + 5) H2 H6 :=
      (k2.mono fun _ h => .inl h).trans ((q4.mono fun _ h => h.elim (fun h => .inr (.inl h)) (fun h => .inr (.inr (.inl h)))).trans ((k4.mono fun _ h => .inr (.inr (.inr (.inl h)))).trans (q6.mono fun _ h => h.elim (fun h => .inr (.inr (.inr (.inr (.inl h))))) (fun h => .inr (.inr (.inr (.inr (.inr h))))))))
    refine ρ1.G_move t (fun i hi hl => ⟨hi, fun h => ?_⟩) G2
    have hi' : i < H.n ∨ i = H.n + 1 := hi.imp (hS1 i) id
    rcases h with h | h | h | h | h | h
    · omega
    · have := hS2 i (v2S i h)
      rcases hi with hi | hi
      · exact d12 i hi (v2S i h)
      · omega
    · omega
    · omega
    · have := hS3 i (v3S i h)
      rcases hi with hi | hi
      · exact d13 i hi (v3S i h)
      · omega
    · omega
  · have t : Same (fun i => i = H.n + 4 ∨ vid v3 i ∨ i = H.n + 5) H4 H6 := (k4.mono fun _ h => .inl h).trans (q6.mono fun _ h => .inr h)
    refine ρ2.G_move t (fun i hi hl => ⟨hi, fun h => ?_⟩) G4
    have hi' : i < H.n ∨ i = H.n + 3 := hi.imp (hS2 i) id
    rcases h with h | h | h
    · omega
    · have := hS3 i (v3S i h)
      rcases hi with hi | hi
      · exact d23 i hi (v3S i h)
      · omega
    · omega
end
end Go.Vm
namespace Go.Vm.Scope
open Go Go.Proofs Go.Vm.Parse
set_option maxRecDepth 100000
set_option maxHeartbeats 1000000
set_option linter.unusedSimpArgs false
set_option linter.unusedVariables false
attribute [local simp] repCells_succ writeAt rd_Fr toList_beq gpe gpn spe gse gsn ne_r0 ne_l0 le_s0 ne_r1 ne_l1 lt_s1 le_s1 ne_r2 ne_l2 lt_s2 le_s2 ne_r3 ne_l3 lt_s3 le_s3 ne_r4 ne_l4 lt_s4 le_s4 ne_r5 ne_l5 lt_s5 le_s5 ne_r6 ne_l6 lt_s6 le_s6 ne_r7 ne_l7 lt_s7 le_s7
def repStr : Rep ByteArray where
  k := 1
  R _ _ x cs := cs = [.string x]
  len h := by subst h; rfl
  move _ _ _ _ h := h
def repNm : Rep Nm where
  k := 3
  R _ _ x cs := cs = [.int .i64 x.kind, .int .i64 x.index, .int .i64 x.size]
  len h := by subst h; rfl
  move _ _ _ _ h := h
def repStrs : Rep (List ByteArray) where
  k := 1
  R H S l cs := ∃ v, cs = [v] ∧ repStr.G H S v l
  len h := by obtain ⟨v, rfl, _⟩ := h; rfl
  move k hs l cs h := by
    obtain ⟨v, e, g⟩ := h
    exact ⟨v, e, repStr.G_move k hs g⟩
structure RT where
  names : List ByteArray
  means : List Nm
  procs : List ByteArray
  heads : List Int
  locals : List (List ByteArray)
  values : List Int
def rt6 (v1 v2 v3 v4 v5 v6 : Value) : List Value := [v1, v2, v3, v4, v5, v6]
/-- The reference's table in the heap; what is its own has a colour. -/
structure RRef (H : Heap) (col : Nat → Nat) (tid : Nat) (v1 v2 v3 v4 v5 v6 : Value) (T : RT) : Prop where
  obj : H.get tid = .row true 0 1 (rt6 v1 v2 v3 v4 v5 v6)
  tc : col tid = 1
  g1 : repStr.G H (fun i => col i = 2) v1 T.names
  g2 : repNm.G H (fun i => col i = 3) v2 T.means
  g3 : repStr.G H (fun i => col i = 4) v3 T.procs
  g4 : repInt.G H (fun i => col i = 5) v4 T.heads
  g5 : repStrs.G H (fun i => col i = 6) v5 T.locals
  g6 : repInt.G H (fun i => col i = 7) v6 T.values
  top : ∀ i, H.n ≤ i → col i = 0
theorem RRef.keep {H H' : Heap} {col : Nat → Nat} {tid : Nat} {v1 v2 v3 v4 v5 v6 : Value} {T : RT} {X : Nat → Prop} (h : RRef H col tid v1 v2 v3 v4 v5 v6 T) (k : Same X H H') (hx : ∀ i, X i → col i = 0) : RRef H' col tid v1 v2 v3 v4 v5 v6 T :=
  have mv : ∀ {c : Nat}, c ≠ 0 → ∀ i, col i = c → i < H.n → col i = c ∧ ¬ X i := fun hc i hi _ => ⟨hi, fun e => by have := hx _ e; omega⟩
  ⟨k.at h.obj (by simp) (fun e => by have := hx _ e; have := h.tc; omega), h.tc, repStr.G_move k (mv (by omega)) h.g1, repNm.G_move k (mv (by omega)) h.g2, repStr.G_move k (mv (by omega)) h.g3, repInt.G_move k (mv (by omega)) h.g4,
    repStrs.G_move k (mv (by omega)) h.g5, repInt.G_move k (mv (by omega)) h.g6, fun i hi => h.top i (Nat.le_trans k.n hi)⟩
def clsP (k : Int) : Int := if k = 4 then 3 else k
section
variable {E : Hooks} (hE : Plain E)
include hE
theorem c_hasText (args : List Value) (H : Heap) : (run Try.prog E).call 49 args H = callB Try.prog E Try.f49 args H := call_B Try.func49 rfl (by decide +kernel) (hE.no _ rfl rfl) args H
theorem c_rfault (args : List Value) (H : Heap) : (run Try.prog E).call 50 args H = callB Try.prog E Try.f50 args H := call_B Try.func50 rfl (by decide +kernel) (hE.no _ rfl rfl) args H
theorem c_rclass (args : List Value) (H : Heap) : (run Try.prog E).call 51 args H = callB Try.prog E Try.f51 args H := call_B Try.func51 rfl (by decide +kernel) (hE.no _ rfl rfl) args H
theorem c_rBuild (args : List Value) (H : Heap) : (run Try.prog E).call 15 args H = callB Try.prog E Try.f15 args H := call_B Try.func15 rfl (by decide +kernel) (hE.no _ rfl rfl) args H
theorem rclass_run (k : Int) (H : Heap) : (run Try.prog E).call 51 [.int .i64 k] H = some (.val (.int .i64 (clsP k)), H) := by
  suffices key : Gives ((run Try.prog E).call 51 [.int .i64 k] H) fun o H' => o = .val (.int .i64 (clsP k)) ∧ H' = H by
    obtain ⟨o, H', e, rfl, rfl⟩ := key
    exact e
  rw [c_rclass hE, callB, bodyOf]
  unfold clsP
  by_cases h : k = 4
  · simp [Try.f51, h]
  · simp [Try.f51, h]
theorem rfault_run (c a : Int) (H : Heap) : ∃ H', (run Try.prog E).call 50 [.int .i64 c, .int .i64 a] H = some (.val (.agg ⟨[.int .i64 c, .int .i64 a]⟩), H') ∧ Same (fun _ => False) H H' := by
  suffices key : Gives ((run Try.prog E).call 50 [.int .i64 c, .int .i64 a] H) fun o H' => o = .val (.agg ⟨[.int .i64 c, .int .i64 a]⟩) ∧ Same (fun _ => False) H H' by
    obtain ⟨o, H', e, rfl, k⟩ := key
    exact ⟨H', e, k⟩
  rw [c_rfault hE, callB, bodyOf]
  simp [Try.f50]
  exact Same.push _ _ _
def hasP (l : List ByteArray) (x : ByteArray) : Bool := l.any fun y => decide (y = x)
theorem hasText_run {H : Heap} {S : Nat → Prop} {v : Value} {l : List ByteArray} (g : repStr.G H S v l) (hl : l.length ≤ 1000000) (x : ByteArray) : (run Try.prog E).call 49 [v, .string x] H = some (.val (.bool (hasP l x)), H) := by
  suffices key : Gives ((run Try.prog E).call 49 [v, .string x] H) fun o H' => o = .val (.bool (hasP l x)) ∧ H' = H by
    obtain ⟨o, H', e, rfl, rfl⟩ := key
    exact e
  rw [c_hasText hE, callB, bodyOf]
  obtain ⟨b, rfl⟩ := repStr.G_slice g
  simp [Try.f49]
  refine loop_mid2 (fun t K => K = H ∧ hasP l x = false) (fun m t K => K = H ∧ ∃ k, k ≤ l.length ∧ m = l.length - k ∧ rd t 5 = .int .i64 k ∧ hasP l x = hasP (l.drop k) x) l.length ?_ ?_ ?_
  · exact ⟨rfl, 0, Nat.zero_le _, by simp, by simp, by simp⟩
  · rintro m t K hk ⟨rfl, k, hkl, rfl, g5, hh⟩
    have ht : t.length = 18 := hk.1.trans (by simp [len_Bs])
    have hh0 := hk.all [0, 1] (by decide +kernel)
    simp at hh0
    obtain ⟨u0, u1⟩ := hh0
    rcases Nat.lt_or_ge k l.length with hlt | hge
    · obtain ⟨id, tl, cs, e1, _, _, hrow, hcl, hget, hle⟩ := repStr.G_at g hlt
      cases e1
      have hd : l.drop k = l[k] :: l.drop (k + 1) := List.drop_eq_getElem_cons hlt
      rw [hd] at hh
      generalize l[k] = y at *
      simp only [repStr, Nat.mul_one] at hget hcl hle
      have w1 : IntKind.i64.wrap ((k : Int) + 1) = (k : Int) + 1 := wrap64 _ (by omega) (by omega)
      have hq : hasP (y :: l.drop (k + 1)) x = (decide (y = x) || hasP (l.drop (k + 1)) x) := by simp [hasP]
      rw [hq] at hh
      have hc1 : cs[k]? = some (.string y) := by
        have := congrArg (fun q => q[0]?) hget
        simpa using this
      have hc2 : cs[k]'(by omega) = .string y := (List.getElem?_eq_some_iff.1 hc1).2
      by_cases hy : y = x
      · simp [hy] at hh
        subst hy
        simp [ht, u0, u1, g5, hlt, hrow, hcl, hget, hle, hc2, hh]
      · simp [hy] at hh
        simp [ht, u0, u1, g5, hlt, hrow, hcl, hget, hle, hc2, hy, w1]
        exact ⟨l.length - (k + 1), by omega, k + 1, by omega, rfl, by simp [ht], hh⟩
    · simp [ht, u0, u1, g5, show ¬ k < l.length by omega]
      rw [hh, List.drop_eq_nil_of_le hge]
      rfl
  · rintro t K hk ⟨rfl, hf⟩
    have ht : t.length = 18 := hk.1.trans (by simp [len_Bs])
    simp [ht, hf]
end
end Go.Vm.Scope
