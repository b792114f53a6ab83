/- What is proved: the program's reader of expressions: the rows one by one. -/
import Derived.Test.YtblmgcfigcpoaaaExprW4
namespace Go.Vm.Ex
open Go Go.Proofs Go.Vm.Parse
set_option maxRecDepth 100000
set_option maxHeartbeats 4000000
set_option linter.unusedSimpArgs false
set_option linter.unusedVariables false
attribute [local simp] repCells_succ writeAt rd_Fr toList_beq gpe gpn spe gse gsn ne_r0 ne_l0 le_s0 ne_r1 ne_l1 lt_s1 le_s1 ne_r2 ne_l2 lt_s2 le_s2 ne_r3 ne_l3 lt_s3 le_s3 ne_r4 ne_l4 lt_s4 le_s4 ne_r5 ne_l5 lt_s5 le_s5 ne_r6 ne_l6 lt_s6 le_s6 ne_r7 ne_l7 lt_s7 le_s7
theorem rowL1 : rowL 1 = [(⟨#[111, 114]⟩, 22)] := by decide
theorem rowL2 : rowL 2 = [(⟨#[97, 110, 100]⟩, 21)] := by decide
theorem rowL4 : rowL 4 = [(⟨#[61]⟩, 15), (⟨#[60, 62]⟩, 16), (⟨#[60]⟩, 17), (⟨#[60, 61]⟩, 18), (⟨#[62]⟩, 19), (⟨#[62, 61]⟩, 20)] := by decide
theorem rowL5 : rowL 5 = [(⟨#[43]⟩, 9), (⟨#[45]⟩, 10)] := by decide
theorem rowL6 : rowL 6 = [(⟨#[42]⟩, 11), (⟨#[47]⟩, 12), (⟨#[37]⟩, 13)] := by decide
section
variable {E : Hooks} (hE : Plain E)
include hE
/-- Behind the call of a row: what is handed back is stored. -/
theorem RetX.out {H K : Heap} {r lid : Nat} {L : List Tk} {e : Ex} {s : PS} {lv : Int} {o : Out} {K' : Heap} (hr : r < H.n) (hl : lid < H.n) (kS : Same (fun _ => False) (H.push (.row true 0 1 z6)) K) (h : RetX K r lid L e s lv o K') :
    ∃ cs, o = .val (.agg ⟨cs⟩) ∧ Six cs ∧ K'.get H.n = .row true 0 1 z6 ∧ H.n < K'.n ∧ RetX H r lid L e s lv (.val (.agg ⟨cs⟩)) (K'.set H.n (.row true 0 1 cs)) := by
  have _ := hE
  obtain ⟨cs, rfl, h6, k, q, re⟩ := h
  have n1 := kS.n
  have n2 := k.n
  simp at n1
  have kk : Same (· = r) (H.push (.row true 0 1 z6)) K' := (Same.none kS).trans k
  have g : K'.get H.n = .row true 0 1 z6 := kk.at (Heap.get_push_self _ _) (by simp) (by omega)
  have k5 : Same (fun i => i = H.n) K' (K'.set H.n (.row true 0 1 cs)) := Same.set (X := fun i => i = H.n) K' (by omega) rfl _
  exact ⟨cs, rfl, h6, g, by omega, cs, rfl, h6, ((Same.push _ _ _).trans kk).then k5 (fun i hi => .inr (by omega)), q.keep k5 (by omega) (by omega), fun hc => RE.move k5 (fun i hi _ => ⟨by omega, by omega⟩) _ _ (re hc)⟩
theorem expr_reads {L : List Tk} {n : Nat} (hf : ∀ j, j ≤ n → Reads E L 29 (.row (1 + 1)) j) : Reads E L 22 (.row 1) (n + 1) := by
  intro H r lid s lv e s' h hc h0l hlv hx
  have hr := h.lt
  have hl := h.lid_lt
  have kS : Same (fun _ => False) (H.push (.row true 0 1 z6)) (((H.push (.row true 0 1 z6)).push (.row true 0 1 [.string ⟨#[111, 114]⟩])).push (.row true 0 1 [.int .i64 22])) := (Same.push _ _ _).then_push _
  have h2 := h.same ((Same.push (fun _ => False) _ _).trans kS)
  have core := row_core hE (sid := H.n + 1) (oid := H.n + 1 + 1) (t1 := 0) (t2 := 0) hf h2 hc h0l hlv (by omega) (by rw [rowL1]; simp) (by rw [rowL1]; simp) (by rw [rowL1]; simp) (by omega) (by omega) hx
  obtain ⟨o, K', e1, hR⟩ := core
  obtain ⟨cs, rfl, ⟨a, b, c, d, y, b1, m1, c1, rfl⟩, g, hn, fin⟩ := RetX.out hE hr hl kS hR
  rw [rowL1] at e1
  rw [k_expr hE, callB, bodyOf]
  simp only [z6, List.length_cons, List.length_nil, Nat.zero_add] at *
  simp [Try.f22]
  simp at e1
  simp [e1, g, hn]
  exact fin
theorem conj_reads {L : List Tk} {n : Nat} (hf : ∀ j, j ≤ n → Reads E L 37 (.row (2 + 1)) j) : Reads E L 29 (.row 2) (n + 1) := by
  intro H r lid s lv e s' h hc h0l hlv hx
  have hr := h.lt
  have hl := h.lid_lt
  have kS : Same (fun _ => False) (H.push (.row true 0 1 z6)) (((H.push (.row true 0 1 z6)).push (.row true 0 1 [.string ⟨#[97, 110, 100]⟩])).push (.row true 0 1 [.int .i64 21])) := (Same.push _ _ _).then_push _
  have h2 := h.same ((Same.push (fun _ => False) _ _).trans kS)
  have core := row_core hE (sid := H.n + 1) (oid := H.n + 1 + 1) (t1 := 0) (t2 := 0) hf h2 hc h0l hlv (by omega) (by rw [rowL2]; simp) (by rw [rowL2]; simp) (by rw [rowL2]; simp) (by omega) (by omega) hx
  obtain ⟨o, K', e1, hR⟩ := core
  obtain ⟨cs, rfl, ⟨a, b, c, d, y, b1, m1, c1, rfl⟩, g, hn, fin⟩ := RetX.out hE hr hl kS hR
  rw [rowL2] at e1
  rw [k_conj hE, callB, bodyOf]
  simp only [z6, List.length_cons, List.length_nil, Nat.zero_add] at *
  simp [Try.f29]
  simp at e1
  simp [e1, g, hn]
  exact fin
theorem rel_reads {L : List Tk} {n : Nat} (hf : ∀ j, j ≤ n → Reads E L 46 (.row (4 + 1)) j) : Reads E L 44 (.row 4) (n + 1) := by
  intro H r lid s lv e s' h hc h0l hlv hx
  have hr := h.lt
  have hl := h.lid_lt
  have kS : Same (fun _ => False) (H.push (.row true 0 1 z6)) (((H.push (.row true 0 1 z6)).push (.row true 0 1 [.string ⟨#[61]⟩, .string ⟨#[60, 62]⟩, .string ⟨#[60]⟩, .string ⟨#[60, 61]⟩, .string ⟨#[62]⟩, .string ⟨#[62, 61]⟩])).push (.row true 0 1 [.int .i64 15, .int .i64 16, .int .i64 17, .int .i64 18, .int .i64 19, .int .i64 20])) := (Same.push _ _ _).then_push _
  have h2 := h.same ((Same.push (fun _ => False) _ _).trans kS)
  have core := row_core hE (sid := H.n + 1) (oid := H.n + 1 + 1) (t1 := 0) (t2 := 0) hf h2 hc h0l hlv (by omega) (by rw [rowL4]; simp) (by rw [rowL4]; simp) (by rw [rowL4]; simp) (by omega) (by omega) hx
  obtain ⟨o, K', e1, hR⟩ := core
  obtain ⟨cs, rfl, ⟨a, b, c, d, y, b1, m1, c1, rfl⟩, g, hn, fin⟩ := RetX.out hE hr hl kS hR
  rw [rowL4] at e1
  rw [k_rel hE, callB, bodyOf]
  simp only [z6, List.length_cons, List.length_nil, Nat.zero_add] at *
  simp [Try.f44]
  simp at e1
  simp [e1, g, hn]
  exact fin
theorem sum_reads {L : List Tk} {n : Nat} (hf : ∀ j, j ≤ n → Reads E L 48 (.row (5 + 1)) j) : Reads E L 46 (.row 5) (n + 1) := by
  intro H r lid s lv e s' h hc h0l hlv hx
  have hr := h.lt
  have hl := h.lid_lt
  have kS : Same (fun _ => False) (H.push (.row true 0 1 z6)) (((H.push (.row true 0 1 z6)).push (.row true 0 1 [.string ⟨#[43]⟩, .string ⟨#[45]⟩])).push (.row true 0 1 [.int .i64 9, .int .i64 10])) := (Same.push _ _ _).then_push _
  have h2 := h.same ((Same.push (fun _ => False) _ _).trans kS)
  have core := row_core hE (sid := H.n + 1) (oid := H.n + 1 + 1) (t1 := 0) (t2 := 0) hf h2 hc h0l hlv (by omega) (by rw [rowL5]; simp) (by rw [rowL5]; simp) (by rw [rowL5]; simp) (by omega) (by omega) hx
  obtain ⟨o, K', e1, hR⟩ := core
  obtain ⟨cs, rfl, ⟨a, b, c, d, y, b1, m1, c1, rfl⟩, g, hn, fin⟩ := RetX.out hE hr hl kS hR
  rw [rowL5] at e1
  rw [k_sum hE, callB, bodyOf]
  simp only [z6, List.length_cons, List.length_nil, Nat.zero_add] at *
  simp [Try.f46]
  simp at e1
  simp [e1, g, hn]
  exact fin
theorem term_reads {L : List Tk} {n : Nat} (hf : ∀ j, j ≤ n → Reads E L 49 (.row (6 + 1)) j) : Reads E L 48 (.row 6) (n + 1) := by
  intro H r lid s lv e s' h hc h0l hlv hx
  have hr := h.lt
  have hl := h.lid_lt
  have kS : Same (fun _ => False) (H.push (.row true 0 1 z6)) (((H.push (.row true 0 1 z6)).push (.row true 0 1 [.string ⟨#[42]⟩, .string ⟨#[47]⟩, .string ⟨#[37]⟩])).push (.row true 0 1 [.int .i64 11, .int .i64 12, .int .i64 13])) := (Same.push _ _ _).then_push _
  have h2 := h.same ((Same.push (fun _ => False) _ _).trans kS)
  have core := row_core hE (sid := H.n + 1) (oid := H.n + 1 + 1) (t1 := 0) (t2 := 0) hf h2 hc h0l hlv (by omega) (by rw [rowL6]; simp) (by rw [rowL6]; simp) (by rw [rowL6]; simp) (by omega) (by omega) hx
  obtain ⟨o, K', e1, hR⟩ := core
  obtain ⟨cs, rfl, ⟨a, b, c, d, y, b1, m1, c1, rfl⟩, g, hn, fin⟩ := RetX.out hE hr hl kS hR
  rw [rowL6] at e1
  rw [k_term hE, callB, bodyOf]
  simp only [z6, List.length_cons, List.length_nil, Nat.zero_add] at *
  simp [Try.f48]
  simp at e1
  simp [e1, g, hn]
  exact fin
end
end Go.Vm.Ex
