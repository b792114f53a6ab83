/- What is defined and proved: the program's reader of expressions, in the heap; its small steps. -/
import Derived.Test.YtblmgcfigcpoaaaParse6
import Derived.Test.YtblmgcfigcpoaaaCut
namespace Go.Vm.Ex
open Go Go.Proofs Go.Vm.Parse
set_option maxRecDepth 100000
set_option maxHeartbeats 1000000
set_option linter.unusedSimpArgs false
set_option linter.unusedVariables false
attribute [local simp] repCells_succ writeAt rd_Fr toList_beq gpe gpn spe gse gsn ne_r0 ne_l0 le_s0 ne_r1 ne_l1 lt_s1 le_s1 ne_r2 ne_l2 lt_s2 le_s2 ne_r3 ne_l3 lt_s3 le_s3 ne_r4 ne_l4 lt_s4 le_s4 ne_r5 ne_l5 lt_s5 le_s5 ne_r6 ne_l6 lt_s6 le_s6 ne_r7 ne_l7 lt_s7 le_s7
section
variable {E : Hooks} (hE : Plain E)
include hE
theorem k_tok (args : List Value) (H : Heap) : (run Try.prog E).call 35 args H = callB Try.prog E Try.f35 args H := call_B Try.func35 rfl (by decide +kernel) (hE.no _ rfl rfl) args H
theorem k_bad (args : List Value) (H : Heap) : (run Try.prog E).call 23 args H = callB Try.prog E Try.f23 args H := call_B Try.func23 rfl (by decide +kernel) (hE.no _ rfl rfl) args H
theorem k_is (args : List Value) (H : Heap) : (run Try.prog E).call 42 args H = callB Try.prog E Try.f42 args H := call_B Try.func42 rfl (by decide +kernel) (hE.no _ rfl rfl) args H
theorem k_op (args : List Value) (H : Heap) : (run Try.prog E).call 36 args H = callB Try.prog E Try.f36 args H := call_B Try.func36 rfl (by decide +kernel) (hE.no _ rfl rfl) args H
theorem k_fail (args : List Value) (H : Heap) : (run Try.prog E).call 47 args H = callB Try.prog E Try.f47 args H := call_B Try.func47 rfl (by decide +kernel) (hE.no _ rfl rfl) args H
theorem k_need (args : List Value) (H : Heap) : (run Try.prog E).call 52 args H = callB Try.prog E Try.f52 args H := call_B Try.func52 rfl (by decide +kernel) (hE.no _ rfl rfl) args H
theorem k_deeper (args : List Value) (H : Heap) : (run Try.prog E).call 45 args H = callB Try.prog E Try.f45 args H := call_B Try.func45 rfl (by decide +kernel) (hE.no _ rfl rfl) args H
theorem k_row (args : List Value) (H : Heap) : (run Try.prog E).call 28 args H = callB Try.prog E Try.f28 args H := call_B Try.func28 rfl (by decide +kernel) (hE.no _ rfl rfl) args H
theorem k_expr (args : List Value) (H : Heap) : (run Try.prog E).call 22 args H = callB Try.prog E Try.f22 args H := call_B Try.func22 rfl (by decide +kernel) (hE.no _ rfl rfl) args H
theorem k_conj (args : List Value) (H : Heap) : (run Try.prog E).call 29 args H = callB Try.prog E Try.f29 args H := call_B Try.func29 rfl (by decide +kernel) (hE.no _ rfl rfl) args H
theorem k_un (args : List Value) (H : Heap) : (run Try.prog E).call 43 args H = callB Try.prog E Try.f43 args H := call_B Try.func43 rfl (by decide +kernel) (hE.no _ rfl rfl) args H
theorem k_neg (args : List Value) (H : Heap) : (run Try.prog E).call 37 args H = callB Try.prog E Try.f37 args H := call_B Try.func37 rfl (by decide +kernel) (hE.no _ rfl rfl) args H
theorem k_rel (args : List Value) (H : Heap) : (run Try.prog E).call 44 args H = callB Try.prog E Try.f44 args H := call_B Try.func44 rfl (by decide +kernel) (hE.no _ rfl rfl) args H
theorem k_sum (args : List Value) (H : Heap) : (run Try.prog E).call 46 args H = callB Try.prog E Try.f46 args H := call_B Try.func46 rfl (by decide +kernel) (hE.no _ rfl rfl) args H
theorem k_term (args : List Value) (H : Heap) : (run Try.prog E).call 48 args H = callB Try.prog E Try.f48 args H := call_B Try.func48 rfl (by decide +kernel) (hE.no _ rfl rfl) args H
theorem k_fact (args : List Value) (H : Heap) : (run Try.prog E).call 49 args H = callB Try.prog E Try.f49 args H := call_B Try.func49 rfl (by decide +kernel) (hE.no _ rfl rfl) args H
theorem k_name (args : List Value) (H : Heap) : (run Try.prog E).call 51 args H = callB Try.prog E Try.f51 args H := call_B Try.func51 rfl (by decide +kernel) (hE.no _ rfl rfl) args H
theorem k_prim (args : List Value) (H : Heap) : (run Try.prog E).call 50 args H = callB Try.prog E Try.f50 args H := call_B Try.func50 rfl (by decide +kernel) (hE.no _ rfl rfl) args H
theorem k_Parse (args : List Value) (H : Heap) : (run Try.prog E).call 12 args H = callB Try.prog E Try.f12 args H := call_B Try.func12 rfl (by decide +kernel) (hE.no _ rfl rfl) args H
end
def prs (lid n : Nat) (s : PS) (lv : Int) : List Value := [.slice (some ⟨lid, 0, none⟩) n n, .int .i64 s.p, .int .i64 lv, .int .i64 s.c, .int .i64 s.a]
/-- The reader, in the heap, at a level. -/
structure RP (H : Heap) (r lid : Nat) (L : List Tk) (s : PS) (lv : Int) : Prop where
  obj : H.get r = .row true 0 1 (prs lid L.length s lv)
  toks : ∃ tl, H.get lid = .row true tl 4 (flatT L)
  small : L.length ≤ 100000
  place : s.p ≤ L.length
  ne : lid ≠ r
theorem RP.lt {H : Heap} {r lid : Nat} {L : List Tk} {s : PS} {lv : Int} (h : RP H r lid L s lv) : r < H.n := Heap.lt_of_get h.obj (by simp)
theorem RP.lid_lt {H : Heap} {r lid : Nat} {L : List Tk} {s : PS} {lv : Int} (h : RP H r lid L s lv) : lid < H.n := by
  obtain ⟨tl, h2⟩ := h.toks
  exact Heap.lt_of_get h2 (by simp)
theorem RP.keep {X : Nat → Prop} {H H' : Heap} {r lid : Nat} {L : List Tk} {s : PS} {lv : Int} (h : RP H r lid L s lv) (k : Same X H H') (hr : ¬ X r) (hl : ¬ X lid) : RP H' r lid L s lv := by
  obtain ⟨tl, h2⟩ := h.toks
  exact ⟨k.at h.obj (by simp) hr, ⟨tl, k.at h2 (by simp) hl⟩, h.small, h.place, h.ne⟩
theorem RP.same {H H' : Heap} {r lid : Nat} {L : List Tk} {s : PS} {lv : Int} (h : RP H r lid L s lv) (k : Same (fun _ => False) H H') : RP H' r lid L s lv := h.keep k (fun h => h) (fun h => h)
theorem RP.turn {H : Heap} {r lid : Nat} {L : List Tk} {s : PS} {lv : Int} (h : RP H r lid L s lv) (s' : PS) (lv' : Int) (hp : s'.p ≤ L.length) : RP (H.set r (.row true 0 1 (prs lid L.length s' lv'))) r lid L s' lv' := by
  obtain ⟨tl, h2⟩ := h.toks
  exact ⟨Heap.get_set_self _ _ h.lt, ⟨tl, by rw [Heap.get_set _ _ _ h.lt, if_neg h.ne]; exact h2⟩, h.small, hp, h.ne⟩
theorem q_tok1 : quiet Try.prog (drawN Try.f35 0) = true := by decide +kernel
theorem q_tok3 : quiet Try.prog (drawN Try.f35 1) = true := by decide +kernel
/-- Is a token this word or sign? -/
def isT (t : Tk) (x : ByteArray) : Bool := decide ((t.kind = 3 ∨ t.kind = 4) ∧ t.text = x)
theorem isT_P {L : List Tk} {s : PS} (hc : s.c = 0) (x : ByteArray) : isP L s x = isT (tok L s.p) x := by unfold isP isT; simp [hc]
theorem isT_lt {L : List Tk} {p : Nat} {x : ByteArray} (h : isT (tok L p) x = true) : p < L.length := tok_ge_kind (by
  unfold isT at h
  simp only [decide_eq_true_eq] at h
  rcases h.1 with h | h <;> omega)
section
variable {E : Hooks} (hE : Plain E)
include hE
theorem is_run2 (t : Tk) (x : ByteArray) (H : Heap) : (run Try.prog E).call 42 [t.v, .string x] H = some (.val (.bool (isT t x)), H.push (.row true 0 1 t.cells)) := by
  suffices key : Gives ((run Try.prog E).call 42 [t.v, .string x] H) fun o H' => o = .val (.bool (isT t x)) ∧ H' = H.push (.row true 0 1 t.cells) by
    obtain ⟨o, H', e, rfl, rfl⟩ := key
    exact e
  rw [k_is hE, callB, bodyOf]
  unfold isT
  simp only [Tk.v, Tk.cells]
  by_cases hk : t.kind = 3
  · simp [Try.f42, hk, Heap.get_push_self]
  · by_cases hk4 : t.kind = 4
    · simp [Try.f42, hk, hk4, Heap.get_push_self]
    · simp [Try.f42, hk, hk4, Heap.get_push_self]
section
variable {H : Heap} {r lid : Nat} {L : List Tk} {s : PS} {lv : Int} (h : RP H r lid L s lv)
include h
theorem tok_run : ∃ H', (run Try.prog E).call 35 [.pointer (some ⟨r, 0, none⟩)] H = some (.val (tok L s.p).v, H') ∧ Same (fun _ => False) H H' := by
  obtain ⟨tl, ht⟩ := h.toks
  have hsm := h.small
  have hpl := h.place
  have hl := h.lid_lt
  have hr := h.lt
  have hobj := h.obj
  simp only [prs] at hobj
  suffices key : Gives ((run Try.prog E).call 35 [.pointer (some ⟨r, 0, none⟩)] H) fun o H' => o = .val (tok L s.p).v ∧ Same (fun _ => False) H H' by
    obtain ⟨o, H', e, rfl, k⟩ := key
    exact ⟨H', e, k⟩
  rw [k_tok hE, callB, bodyOf]
  simp [Try.f35]
  refine region_quiet (by exact q_tok1) ?_
  rcases Nat.lt_or_ge s.p L.length with hp | hp
  · simp [hobj, hr, hl, show ¬ (s.p : Int) < 0 by omega, show ¬ L.length ≤ s.p by omega]
    refine region_quiet (by exact q_tok3) ?_
    have hlen := flatT_length L
    have hget := flatT_get L s.p hp
    simp [hobj, hr, hl, ht, hp, hlen, hget, show s.p * 4 + 4 ≤ 4 * L.length by omega, tok_lt hp, Tk.v, Tk.cells, Heap.get_push_self]
    exact Same.push _ _ _
  · simp [hobj, hr, hl, show ¬ (s.p : Int) < 0 by omega, hp, tok_ge hp, endTk, Tk.v, Tk.cells, Heap.get_push_self]
    exact Same.push _ _ _
theorem bad_run2 : (run Try.prog E).call 23 [.pointer (some ⟨r, 0, none⟩)] H = some (.val (.bool (!decide (s.c = 0))), H) := by
  have hobj := h.obj
  simp only [prs] at hobj
  rw [k_bad hE, callB, bodyOf]
  simp [Try.f23, hobj]
theorem fail_run (c a : Int) : ∃ H', (run Try.prog E).call 47 [.pointer (some ⟨r, 0, none⟩), .int .i64 c, .int .i64 a] H = some (.val (.tuple #[]), H') ∧ Same (· = r) H H' ∧ RP H' r lid L (if s.c = 0 then { s with c := c, a := a } else s) lv := by
  have hobj := h.obj
  have e2 := bad_run2 hE h
  have hr := h.lt
  by_cases hc : s.c = 0
  · have h2 := h.turn { s with c := c, a := a } lv h.place
    rw [if_pos hc]
    simp only [prs] at hobj h2
    refine ⟨_, ?_, Same.set (X := fun x => x = r) H hr rfl _, h2⟩
    suffices key : Gives ((run Try.prog E).call 47 [.pointer (some ⟨r, 0, none⟩), .int .i64 c, .int .i64 a] H) fun o H' => o = .val (.tuple #[]) ∧ H' = H.set r (.row true 0 1 [.slice (some ⟨lid, 0, none⟩) L.length L.length, .int .i64 s.p, .int .i64 lv, .int .i64 c, .int .i64 a]) by
      obtain ⟨o, H', e, rfl, rfl⟩ := key
      exact e
    rw [k_fail hE, callB, bodyOf]
    simp [Try.f47, e2, hc, hobj]
  · rw [if_neg hc]
    refine ⟨H, ?_, Same.refl _ _, h⟩
    suffices key : Gives ((run Try.prog E).call 47 [.pointer (some ⟨r, 0, none⟩), .int .i64 c, .int .i64 a] H) fun o H' => o = .val (.tuple #[]) ∧ H' = H by
      obtain ⟨o, H', e, rfl, rfl⟩ := key
      exact e
    rw [k_fail hE, callB, bodyOf]
    simp [Try.f47, e2, hc]
end
end
/-- Where the reader stands: of a fault the place no longer counts. -/
def RQ (H : Heap) (r lid : Nat) (L : List Tk) (s : PS) (lv : Int) : Prop := ∃ s2, RP H r lid L s2 lv ∧ s2.c = s.c ∧ s2.a = s.a ∧ (s.c = 0 → s2 = s)
theorem RP.q {H : Heap} {r lid : Nat} {L : List Tk} {s : PS} {lv : Int} (h : RP H r lid L s lv) : RQ H r lid L s lv := ⟨s, h, rfl, rfl, fun _ => rfl⟩
theorem RQ.good {H : Heap} {r lid : Nat} {L : List Tk} {s : PS} {lv : Int} (h : RQ H r lid L s lv) (hc : s.c = 0) : RP H r lid L s lv := by
  obtain ⟨s2, h1, h2, h3, h4⟩ := h
  rw [← h4 hc]; exact h1
theorem RQ.keep {X : Nat → Prop} {H H' : Heap} {r lid : Nat} {L : List Tk} {s : PS} {lv : Int} (h : RQ H r lid L s lv) (k : Same X H H') (hr : ¬ X r) (hl : ¬ X lid) : RQ H' r lid L s lv := by
  obtain ⟨s2, h1, h2⟩ := h
  exact ⟨s2, h1.keep k hr hl, h2⟩
section
variable {E : Hooks} (hE : Plain E) {H : Heap} {r lid : Nat} {L : List Tk} {s : PS} {lv : Int}
include hE
theorem need_raw (h : RP H r lid L s lv) (x : ByteArray) : ∃ H', (run Try.prog E).call 52 [.pointer (some ⟨r, 0, none⟩), .string x] H = some (.val (.tuple #[]), H') ∧ Same (· = r) H H' ∧
    RP H' r lid L (if isT (tok L s.p) x = true then { s with p := s.p + 1 } else if s.c = 0 then { s with c := 14, a := (tok L s.p).at_ } else s) lv := by
  obtain ⟨H1, e1, k1⟩ := tok_run hE h
  have h1 := h.same k1
  have e2 := is_run2 hE (tok L s.p) x H1
  have h2 := h1.same (Same.push (fun _ => False) _ (.row true 0 1 (tok L s.p).cells))
  have k2 : Same (fun _ => False) H (H1.push (.row true 0 1 (tok L s.p).cells)) := k1.then_push _
  by_cases hi : isT (tok L s.p) x = true
  · have hlt := isT_lt hi
    have h3 := h2.turn { s with p := s.p + 1 } lv (by show s.p + 1 ≤ _; omega)
    have hobj := h2.obj
    have hr := h2.lt
    have hsm := h.small
    have hw := wrap64 ((s.p : Int) + 1) (by omega) (by omega)
    rw [if_pos hi]
    simp only [prs] at hobj h3
    refine ⟨_, ?_, (Same.none (X := fun x => x = r) k2).then_set (by simpa using hr) (.inl rfl) _, h3⟩
    suffices key : Gives ((run Try.prog E).call 52 [.pointer (some ⟨r, 0, none⟩), .string x] H) fun o H' => o = .val (.tuple #[]) ∧ H' = (H1.push (.row true 0 1 (tok L s.p).cells)).set r (.row true 0 1 [.slice (some ⟨lid, 0, none⟩) L.length L.length, .int .i64 ((s.p + 1 : Nat) : Int), .int .i64 lv, .int .i64 s.c, .int .i64 s.a]) by
      obtain ⟨o, H', e, rfl, rfl⟩ := key
      exact e
    rw [k_need hE, callB, bodyOf]
    simp only [hi] at e2
    generalize H1.push (.row true 0 1 (tok L s.p).cells) = H2 at *
    simp [Try.f52, e1, e2, hobj, hw]
  · rw [if_neg hi]
    obtain ⟨H3, e3, k3⟩ := tok_run hE h2
    obtain ⟨H4, e4, k4, h4⟩ := fail_run hE (h2.same k3) 14 (tok L s.p).at_
    refine ⟨H4, ?_, (Same.none (k2.then0 k3)).trans k4, h4⟩
    suffices key : Gives ((run Try.prog E).call 52 [.pointer (some ⟨r, 0, none⟩), .string x] H) fun o H' => o = .val (.tuple #[]) ∧ H' = H4 by
      obtain ⟨o, H', e, rfl, rfl⟩ := key
      exact e
    rw [k_need hE, callB, bodyOf]
    simp only [Bool.not_eq_true] at hi
    simp only [hi] at e2
    generalize H1.push (.row true 0 1 (tok L s.p).cells) = H2 at *
    generalize tok L s.p = tk at *
    simp only [Tk.v, Tk.cells] at *
    simp [Try.f52, e1, e2, e3, e4]
theorem need_run (h : RQ H r lid L s lv) (x : ByteArray) : ∃ H', (run Try.prog E).call 52 [.pointer (some ⟨r, 0, none⟩), .string x] H = some (.val (.tuple #[]), H') ∧ Same (· = r) H H' ∧ RQ H' r lid L (mustS L s x) lv := by
  obtain ⟨s2, h1, hc, ha, hs⟩ := h
  obtain ⟨H', e, k, h2⟩ := need_raw hE h1 x
  refine ⟨H', e, k, ?_⟩
  by_cases hc0 : s.c = 0
  · have e2 := hs hc0
    subst e2
    have : mustS L s2 x = (if isT (tok L s2.p) x = true then { s2 with p := s2.p + 1 } else if s2.c = 0 then { s2 with c := 14, a := (tok L s2.p).at_ } else s2) := by
      unfold mustS faultS
      rw [isT_P hc0]
    rw [this]
    exact h2.q
  · have hm : mustS L s x = s := by
      unfold mustS faultS
      rw [if_neg (by unfold isP; simp [hc0]), if_neg hc0]
    rw [hm]
    have hc2 : ¬ s2.c = 0 := by rw [hc]; exact hc0
    refine ⟨_, h2, ?_, ?_, fun h => absurd h hc0⟩
    · split
      · exact hc
      · exact hc
    · split
      · exact ha
      · exact ha
end
end Go.Vm.Ex
