/- What is proved: the program's reader of expressions: a level deeper; a sign and what it stands ahead of. -/
import Derived.Test.YtblmgcfigcpoaaaExprW2
namespace Go.Vm.Ex
open Go Go.Proofs Go.Vm.Parse
set_option maxRecDepth 100000
set_option maxHeartbeats 1000000
set_option linter.unusedSimpArgs false
set_option linter.unusedVariables false
attribute [local simp] repCells_succ writeAt rd_Fr toList_beq gpe gpn spe gse gsn ne_r0 ne_l0 le_s0 ne_r1 ne_l1 lt_s1 le_s1 ne_r2 ne_l2 lt_s2 le_s2 ne_r3 ne_l3 lt_s3 le_s3 ne_r4 ne_l4 lt_s4 le_s4 ne_r5 ne_l5 lt_s5 le_s5 ne_r6 ne_l6 lt_s6 le_s6 ne_r7 ne_l7 lt_s7 le_s7
/-- Cells of the shape of an expression's. -/
def Six (cs : List Value) : Prop := ∃ a b c d x b1 n1 c1, cs = [.int .i64 a, .int .i64 b, .int .i64 c, .int .i64 d, .string x, .slice b1 n1 c1]
theorem six_z : Six z6 := ⟨_, _, _, _, _, _, _, _, rfl⟩
theorem RE.shape {H : Heap} {S : Nat → Prop} {e : Ex} {cs : List Value} (h : RE H S e cs) : Six cs := by
  cases e
  simp only [RE] at h
  obtain ⟨v, rfl, h⟩ := h
  rcases h with ⟨rfl, _⟩ | ⟨id, tl, cs', rfl, _⟩ <;> exact ⟨_, _, _, _, _, _, _, _, rfl⟩
/-- What a call must give that reads an expression. -/
def RetX (H : Heap) (r lid : Nat) (L : List Tk) (e : Ex) (s : PS) (lv : Int) (o : Out) (H' : Heap) : Prop :=
  ∃ cs, o = .val (.agg ⟨cs⟩) ∧ Six cs ∧ Same (· = r) H H' ∧ RQ H' r lid L s lv ∧ (s.c = 0 → RE H' (fun i => H.n ≤ i) e cs)
def ptr (r : Nat) : Value := .pointer (some ⟨r, 0, none⟩)
/-- A function that reads what a command reads. -/
def Reads (E : Hooks) (L : List Tk) (f : FuncId) (cmd : Int → XC) (n : Nat) : Prop := ∀ (H : Heap) (r lid : Nat) (s : PS) (lv : Int) (e : Ex) (s' : PS), RP H r lid L s lv → s.c = 0 → 0 ≤ lv → lv ≤ 24 → xP L n (cmd lv) s = some (e, s') →
  Gives ((run Try.prog E).call f [.pointer (some ⟨r, 0, none⟩)] H) (RetX H r lid L e s' lv)
theorem RE.up {K K' : Heap} {n m : Nat} {X : Nat → Prop} {e : Ex} {cs : List Value} (h : RE K (fun i => m ≤ i) e cs) (k : Same X K K') (hn : n ≤ m) (hx : ∀ i, X i → i < m) : RE K' (fun i => n ≤ i) e cs :=
  RE.move k (fun i hi _ => ⟨by omega, fun h => by have := hx i h; omega⟩) _ _ h
theorem pl_un : planOf Try.prog (drawN Try.f43 0) = some [(some (0, 2)), (some (0, 2)), (some (0, 2)), none, none, none, none, none, none] := by decide +kernel
section
variable {E : Hooks} (hE : Plain E)
include hE
theorem deeper_no {f : FuncId} {H : Heap} {r lid : Nat} {L : List Tk} {s : PS} {lv : Int} (h : RP H r lid L s lv) (hc : s.c = 0) (hlv : 24 ≤ lv) :
    Gives ((run Try.prog E).call 45 [.pointer (some ⟨r, 0, none⟩), .func (.func f) #[.pointer (some ⟨r, 0, none⟩)] #[]] H) fun o H' => o = .val (.agg ⟨z6⟩) ∧ Same (· = r) H H' ∧ RP H' r lid L { s with c := 15, a := (tok L s.p).at_ } lv := by
  have h0 := h.same (Same.push (fun _ => False) _ (.row true 0 1 z6))
  obtain ⟨H1, e1, k1⟩ := tok_run hE h0
  obtain ⟨H2, e2, k2, h2⟩ := fail_run hE (h0.same k1) 15 (tok L s.p).at_
  rw [if_pos hc] at h2
  have hobj := h0.obj
  have hr := h.lt
  have hl := h.lid_lt
  have n1 := k1.n
  have n2 := k2.n
  simp at n1
  have kk : Same (· = r) (H.push (.row true 0 1 z6)) H2 := (Same.none k1).trans k2
  have g2 : H2.get H.n = .row true 0 1 z6 := kk.at (Heap.get_push_self _ _) (by simp) (by omega)
  rw [k_deeper hE, callB, bodyOf]
  generalize tok L s.p = tk at *
  simp only [Tk.v, Tk.cells, prs, z6] at *
  simp [Try.f45, hobj, hlv, e1, e2, g2, show H.n < H2.n by omega]
  have k3 : Same (fun i => i = H.n) H2 (H2.set H.n (.row true 0 1 z6)) := Same.set (X := fun i => i = H.n) H2 (by omega) rfl _
  exact ⟨((Same.push _ _ _).trans kk).then k3 (fun i hi => .inr (by omega)), h2.keep k3 (by omega) (by omega)⟩
theorem deeper_run {f : FuncId} {cmd : Int → XC} {n : Nat} {H : Heap} {r lid : Nat} {L : List Tk} {s s' : PS} {lv : Int} {e : Ex} (hf : Reads E L f cmd n) (h : RP H r lid L s lv) (hc : s.c = 0) (h0l : 0 ≤ lv) (hlv : lv < 24) (hp : s.p < L.length)
    (hx : xP L n (cmd (lv + 1)) s.on = some (e, s')) :
    Gives ((run Try.prog E).call 45 [.pointer (some ⟨r, 0, none⟩), .func (.func f) #[.pointer (some ⟨r, 0, none⟩)] #[]] H) (RetX H r lid L e s' lv) := by
  have h0 := h.same (Same.push (fun _ => False) _ (.row true 0 1 z6))
  have hobj := h0.obj
  have hr := h.lt
  have hl := h.lid_lt
  have hsm := h.small
  have h1 := h0.turn s.on lv (by show s.p + 1 ≤ _; omega)
  have h2 := h1.turn s.on (lv + 1) (by show s.p + 1 ≤ _; omega)
  rw [Heap.set_set] at h2
  have hs : Same (· = r) (H.push (.row true 0 1 z6)) _ := Same.set (X := (· = r)) (H.push (.row true 0 1 z6)) h0.lt rfl (.row true 0 1 (prs lid L.length s.on (lv + 1)))
  obtain ⟨o, H4, e4, cs, rfl, ⟨a, b, c, d, x, b1, n1, c1, rfl⟩, k4, ⟨s2, h4, hc2, ha2, hs2⟩, r4⟩ := hf _ r lid s.on (lv + 1) e s' h2 hc (by omega) (by omega) hx
  have kk : Same (· = r) (H.push (.row true 0 1 z6)) H4 := hs.trans k4
  have n4 := kk.n
  simp at n4
  have g4 : H4.get H.n = .row true 0 1 z6 := kk.at (Heap.get_push_self _ _) (by simp) (by omega)
  have k5 : Same (fun i => i = H.n) H4 (H4.set H.n (.row true 0 1 [.int .i64 a, .int .i64 b, .int .i64 c, .int .i64 d, .string x, .slice b1 n1 c1])) := Same.set (X := fun i => i = H.n) H4 (by omega) rfl _
  have h5 := h4.keep k5 (by omega) (by omega)
  have hobj5 := h5.obj
  have h6 := h5.turn s2 lv h5.place
  have k6 : Same (· = r) _ _ := Same.set (X := (· = r)) (H4.set H.n (.row true 0 1 [.int .i64 a, .int .i64 b, .int .i64 c, .int .i64 d, .string x, .slice b1 n1 c1])) h5.lt rfl (.row true 0 1 (prs lid L.length s2 lv))
  have g6 : ((H4.set H.n (.row true 0 1 [.int .i64 a, .int .i64 b, .int .i64 c, .int .i64 d, .string x, .slice b1 n1 c1])).set r (.row true 0 1 (prs lid L.length s2 lv))).get H.n = .row true 0 1 [.int .i64 a, .int .i64 b, .int .i64 c, .int .i64 d, .string x, .slice b1 n1 c1] :=
    k6.at (Heap.get_set_self _ _ (by omega)) (by simp) (by omega)
  have n5 : (H4.set H.n (.row true 0 1 [.int .i64 a, .int .i64 b, .int .i64 c, .int .i64 d, .string x, .slice b1 n1 c1])).n = H4.n := rfl
  have n6 : ((H4.set H.n (.row true 0 1 [.int .i64 a, .int .i64 b, .int .i64 c, .int .i64 d, .string x, .slice b1 n1 c1])).set r (.row true 0 1 (prs lid L.length s2 lv))).n = H4.n := rfl
  have k7 : Same (fun i => i = H.n) _ _ := Same.set (X := fun i => i = H.n) ((H4.set H.n (.row true 0 1 [.int .i64 a, .int .i64 b, .int .i64 c, .int .i64 d, .string x, .slice b1 n1 c1])).set r (.row true 0 1 (prs lid L.length s2 lv))) (by rw [n6]; omega) rfl (.row true 0 1 [.int .i64 a, .int .i64 b, .int .i64 c, .int .i64 d, .string x, .slice b1 n1 c1])
  have h7 := h6.keep k7 (by omega) (by omega)
  have hw1 := wrap64 ((s.p : Int) + 1) (by omega) (by omega)
  have hw2 := wrap64 (lv + 1) (by omega) (by omega)
  have hw3 := wrap64 lv (by omega) (by omega)
  rw [k_deeper hE, callB, bodyOf]
  have fin : RetX H r lid L e s' lv (.val (.agg ⟨[.int .i64 a, .int .i64 b, .int .i64 c, .int .i64 d, .string x, .slice b1 n1 c1]⟩)) (((H4.set H.n (.row true 0 1 [.int .i64 a, .int .i64 b, .int .i64 c, .int .i64 d, .string x, .slice b1 n1 c1])).set r (.row true 0 1 (prs lid L.length s2 lv))).set H.n (.row true 0 1 [.int .i64 a, .int .i64 b, .int .i64 c, .int .i64 d, .string x, .slice b1 n1 c1])) := by
    refine ⟨_, rfl, ⟨_, _, _, _, _, _, _, _, rfl⟩, ?_, ⟨s2, h7, hc2, ha2, hs2⟩, fun h => ?_⟩
    · exact ((((Same.push _ _ _).trans kk).then k5 (fun i hi => .inr (by omega))).trans k6).then k7 (fun i hi => .inr (by omega))
    · have hX : Same (fun i => i = H.n ∨ i = r) H4 _ := ((k5.mono fun i hi => .inl hi).trans (k6.mono fun i hi => .inr hi)).trans (k7.mono fun i hi => .inl hi)
      exact RE.up (r4 h) hX (by simp) (fun i hi => by simp; omega)
  simp only [prs, z6, PS.on] at *
  simp [Try.f45, hobj, show ¬ 24 ≤ lv by omega, hr, hw1, hw2, -Int.add_sub_cancel, hc]
  simp only [hc, Int.natCast_add, Int.natCast_one] at e4
  simp [hobj5, e4, g4, g6, hw3, show H.n < H4.n by omega, show r < H4.n by omega, show ¬ r = H.n by omega, show ¬ H.n = r by omega]
  exact fin
/-- A sign and what it stands ahead of. -/
theorem un_core {f : FuncId} {H : Heap} {r lid : Nat} {L : List Tk} {s s' : PS} {lv : Int} {e0 e : Ex} (k : Int) (h : RP H r lid L s lv)
    (hd : ∀ K, RP K r lid L s lv → Gives ((run Try.prog E).call 45 [.pointer (some ⟨r, 0, none⟩), .func (.func f) #[.pointer (some ⟨r, 0, none⟩)] #[]] K) (RetX K r lid L e0 s' lv))
    (he : s'.c = 0 → e = .mk 5 (tok L s.p).at_ 0 k ByteArray.empty [e0]) :
    Gives ((run Try.prog E).call 43 [.pointer (some ⟨r, 0, none⟩), .int .i64 k, .func (.func f) #[.pointer (some ⟨r, 0, none⟩)] #[]] H) (RetX H r lid L e s' lv) := by
  have h0 := h.same (Same.push (fun _ => False) _ (.row true 0 1 z6))
  obtain ⟨H1, e1, k1⟩ := tok_run hE h0
  have h1 := h0.same k1
  have n1 := k1.n
  simp at n1
  have h2 := h1.same (Same.push (fun _ => False) _ (.row true 0 1 (tok L s.p).cells))
  obtain ⟨o, H4, e4, cs, rfl, ⟨a, b, c, d, x, b1, m1, c1, rfl⟩, k4, q4, r4⟩ := hd _ h2
  have n4 := k4.n
  simp at n4
  have hr := h.lt
  have hl := h.lid_lt
  have kA : Same (fun _ => False) (H.push (.row true 0 1 z6)) (H1.push (.row true 0 1 (tok L s.p).cells)) := k1.then_push _
  have kk : Same (· = r) (H.push (.row true 0 1 z6)) H4 := (Same.none kA).trans k4
  have g4 : H4.get H.n = .row true 0 1 z6 := kk.at (Heap.get_push_self _ _) (by simp) (by omega)
  have gt2 : (H1.push (.row true 0 1 (tok L s.p).cells)).get H1.n = .row true 0 1 (tok L s.p).cells := Heap.get_push_self _ _
  have gt4 : H4.get H1.n = .row true 0 1 (tok L s.p).cells := k4.at gt2 (by simp) (by omega)
  have k5 : Same (fun _ => False) H4 (H4.push (.row true 0 6 [.int .i64 a, .int .i64 b, .int .i64 c, .int .i64 d, .string x, .slice b1 m1 c1])) := Same.push _ _ _
  have k6 : Same (fun i => i = H.n) _ _ := Same.set (X := fun i => i = H.n) (H4.push (.row true 0 6 [.int .i64 a, .int .i64 b, .int .i64 c, .int .i64 d, .string x, .slice b1 m1 c1])) (by simp; omega) rfl (.row true 0 1 [.int .i64 5, .int .i64 (tok L s.p).at_, .int .i64 0, .int .i64 k, .string ByteArray.empty, .slice (some ⟨H4.n, 0, none⟩) 1 1])
  have fin : RetX H r lid L e s' lv (.val (.agg ⟨[.int .i64 5, .int .i64 (tok L s.p).at_, .int .i64 0, .int .i64 k, .string ByteArray.empty, .slice (some ⟨H4.n, 0, none⟩) 1 1]⟩)) ((H4.push (.row true 0 6 [.int .i64 a, .int .i64 b, .int .i64 c, .int .i64 d, .string x, .slice b1 m1 c1])).set H.n (.row true 0 1 [.int .i64 5, .int .i64 (tok L s.p).at_, .int .i64 0, .int .i64 k, .string ByteArray.empty, .slice (some ⟨H4.n, 0, none⟩) 1 1])) := by
    refine ⟨_, rfl, ⟨_, _, _, _, _, _, _, _, rfl⟩, ?_, (q4.keep k5 (fun h => h) (fun h => h)).keep k6 (by omega) (by omega), fun hc => ?_⟩
    · exact (((Same.push _ _ _).trans kk).trans (Same.none k5)).then k6 (fun i hi => .inr (by omega))
    · rw [he hc]
      have r5 := RE.up (n := H.n + 1) (r4 hc) k5 (by simp; omega) (fun i hi => hi.elim)
      have r6 := RE.parts 5 (tok L s.p).at_ 0 k ByteArray.empty (S := fun i => H.n + 1 ≤ i) (id := H4.n) (by omega) (Heap.get_push_self _ _) (REs.one r5)
      exact RE.up r6 k6 (by omega) (fun i hi => by omega)
  rw [k_un hE, callB, bodyOf]
  generalize tok L s.p = tk at *
  simp only [Tk.v, Tk.cells, z6] at *
  simp [Try.f43, e1]
  refine region_plan (by exact pl_un) ?_
  simp [e4, g4, gt2, gt4, show H.n < H4.n by omega, show H1.n < H4.n by omega, show ¬ H.n = H4.n by omega]
  exact fin
end
end Go.Vm.Ex
