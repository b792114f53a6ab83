/- What is proved: what calls and returns of package stack turn. -/
import Derived.Test.YtndegebcamcecaaStackRoom
namespace Go.Vm.StackLaw
open Go Go.Proofs
set_option maxRecDepth 100000
set_option linter.unusedSimpArgs false
attribute [local simp] repCells_succ writeAt rd_Fr
theorem flatR_cons (f : Fm) (fs : List Fm) : flatR (f :: fs) = flatR fs ++ cellsF f := rfl
theorem cellsF_len (f : Fm) : (cellsF f).length = 3 := rfl
theorem gf_append {H : Heap} {v X : Value} {fs : List Fm} {r : Option Nat} (h : GF H v fs r) (f : Fm) (hX : lenA X = some 1) (hc : cellsOf H 3 1 X = some (cellsF f)) (hl : fs.length ≤ 10000) :
    ∃ v' r' H', exAppend Try.prog [53, 53] v X H = some (v', H') ∧ GF H' v' (f :: fs) r' ∧ Same (fun i => r = some i) H H' ∧ Newer H r r' := by
  rcases h with ⟨rfl, rfl, rfl⟩ | ⟨id, cs, cap, rfl, rfl, h2, h3, h4, h5⟩
  · refine ⟨.slice (some ⟨H.n, 0, none⟩) 1 1, some H.n, H.push (.row true 1 3 (cellsF f)), ?_, .inr ⟨H.n, cellsF f, 1, rfl, rfl, by simp, by simp [cellsF], by simp, by simp [flatR, cellsF]⟩, Same.push _ _ _, Newer.new (Nat.le_refl _)⟩
    simp [exAppend, Try.underlying53, hX, hc]
  · have hid := Heap.lt_of_get h2 (by simp)
    have hf := flatR_len fs
    have hF := cellsF_len f
    by_cases hcap : fs.length + 1 ≤ cap
    · refine ⟨.slice (some ⟨id, 0, none⟩) (fs.length + 1) cap, some id, H.set id (.row true 1 3 (cs.take (fs.length * 3) ++ cellsF f ++ cs.drop (fs.length * 3 + 3))), ?_, .inr ⟨id, _, cap, rfl, rfl, Heap.get_set_self _ _ hid, ?_, by simpa using hcap, ?_⟩, Same.set (X := fun i => some id = some i) H hid rfl _, Newer.refl _ _⟩
      · simp [exAppend, Try.underlying53, hX, hc, h2, hcap, show (fs.length + 1 + 200) * 24 ≤ 140737488355328 by omega, show fs.length + 1 ≤ 140737488355328 by omega, h4, show (fs.length + 1) * 3 ≤ cs.length by omega, hF, List.append_assoc]
      · simp [hF]; omega
      · rw [h5, ← flatR_cons, List.length_cons, List.take_append_of_le_length (by rw [flatR_len]; exact Nat.le_refl _)]
        exact List.take_of_length_le (by rw [flatR_len]; exact Nat.le_refl _)
    · obtain rfl : fs.length = cap := by omega
      refine ⟨.slice (some ⟨H.n, 0, none⟩) (fs.length + 1) (fs.length + 1), some H.n, (H.set id .dead).push (.row true 1 3 (flatR fs ++ cellsF f)), ?_, .inr ⟨H.n, flatR (f :: fs), fs.length + 1, rfl, rfl, by rw [flatR_cons, Heap.get_push]; exact if_pos (by simp), by rw [flatR_len, List.length_cons], by simp, List.take_of_length_le (by rw [flatR_len]; exact Nat.le_refl _)⟩, (Same.set (X := (fun i => some id = some i)) H hid rfl _).trans (Same.push _ _ _), Newer.new (Nat.le_refl _)⟩
      simp [exAppend, Try.underlying53, hX, hc, h2, hcap, show (fs.length + 1 + 200) * 24 ≤ 140737488355328 by omega, show fs.length + 1 ≤ 140737488355328 by omega, h3, h5]
theorem gf_drop {H : Heap} {v : Value} {f : Fm} {fs : List Fm} {r : Option Nat} (h : GF H v (f :: fs) r) :
    ∃ b c, v = .slice b (fs.length + 1) c ∧ exSlice Try.prog 53 v none (some (.int .i64 fs.length)) none H = some (.slice b fs.length c, H) ∧ GF H (.slice b fs.length c) fs r := by
  rcases h with ⟨_, h0, _⟩ | ⟨id, cs, cap, rfl, rfl, h2, h3, h4, h5⟩
  · cases h0
  simp only [List.length_cons] at h4 h5
  refine ⟨_, _, rfl, ?_, .inr ⟨id, cs, cap, rfl, rfl, h2, h3, by omega, ?_⟩⟩
  · simp [exSlice, Try.underlying53, cutA, boundOf, h2, show (fs.length : Int) ≤ cap by omega]
  · have := congrArg (List.take (fs.length * 3)) h5
    rw [List.take_take, flatR_cons, Nat.min_eq_left (by omega), List.take_append_of_le_length (by rw [flatR_len]; exact Nat.le_refl _)] at this
    exact this.trans (List.take_of_length_le (by rw [flatR_len]; exact Nat.le_refl _))
section
variable {H : Heap} {k sp q : Nat} {rf : Option Nat} {a s u : Nat} {fs : List Fm} {zs : List Int} (h : St H k sp q rf a s u fs zs)
set_option linter.unusedSectionVars false
include h
theorem St.opn : ∃ H', W.call 14 [ptr k] H = some (.val (iv (opn u fs)), H') ∧ St H' k sp q rf a s u fs zs ∧ Same (fun _ => False) H H' := by
  have hbig := h.big
  have hfit := h.fit
  have hus := h.used
  obtain ⟨o, H1, e1, rfl, f1⟩ := opn_run h.cur (by omega) h.fok
  exact ⟨H1, e1, h.same0 f1, f1⟩
theorem top_none (i : Int) (hi : i < 0 ∨ StackLaw.opn u fs ≤ i) : ∃ H', W.call 21 [ptr k, iv i] H = some (.val (.tuple #[iv 0, .bool false]), H') ∧ Same (fun _ => False) H H' := by
  by_cases h0 : i < 0
  · refine ⟨H, ?_, Same.refl _ _⟩
    rw [c21, callB, bodyOf]
    simp [Try.f21, h0]
  · obtain ⟨H1, e1, h1, f1⟩ := h.opn
    refine ⟨H1, ?_, f1⟩
    simp only [ptr_eq, iv_eq] at e1
    rw [c21, callB, bodyOf]
    simp [Try.f21, h0, e1, show StackLaw.opn u fs ≤ i by omega]
theorem top_run (i : Int) (h0 : 0 ≤ i) (hi : i < StackLaw.opn u fs) : ∃ H', W.call 21 [ptr k, iv i] H = some (.val (.tuple #[iv (zs.getD (a + (u - 1 - i.toNat)) 0), .bool true]), H') ∧ St H' k sp q rf a s u fs zs ∧ Same (fun _ => False) H H' := by
  obtain ⟨H1, e1, h1, f1⟩ := h.opn
  refine ⟨H1, ?_, h1, f1⟩
  have hbig := h.big
  have hfit := h.fit
  have hus := h.used
  have hu : StackLaw.opn u fs ≤ u := by
    cases fs with
    | nil => exact Int.le_refl _
    | cons f fs => have := h.fok.2 f (by simp); simp only [StackLaw.opn]; omega
  have e2 := h1.get (u - 1 - i.toNat) (by omega)
  have key : Gives (W.call 21 [ptr k, iv i] H) fun o H' => o = .val (.tuple #[iv (zs.getD (a + (u - 1 - i.toNat)) 0), .bool true]) ∧ H' = H1 := by
    obtain ⟨⟨v, g1, _⟩, _⟩ := h1.cur
    simp only [ptr_eq, iv_eq] at e1 e2 g1
    rw [show ((u - 1 - i.toNat : Nat) : Int) = (u : Int) - 1 - i by omega] at e2
    rw [c21, callB, bodyOf]
    simp [Try.f21, show ¬ i < 0 by omega, e1, show ¬ StackLaw.opn u fs ≤ i by omega]
    refine region_quiet (by exact q21) ?_
    simp [g1, e2, wrap64 ((u : Int) - 1) (by omega) (by omega), wrap64 ((u : Int) - 1 - i) (by omega) (by omega)]
  obtain ⟨o, H', e, rfl, rfl⟩ := key
  exact e
/-- A return without a frame. -/
theorem ret_none (hf : fs = []) : ∃ H', W.call 17 [ptr k] H = some (.val (.tuple #[iv 0, .bool false]), H') ∧ Same (fun _ => False) H H' := by
  obtain ⟨o, H1, e1, rfl, f1⟩ := inner_nil h.cur hf
  refine ⟨H1.push (.row true 0 1 [iv 0, iv 0, iv 0]), ?_, f1.trans (Same.push _ _ _)⟩
  simp only [ptr_eq, iv_eq] at e1
  rw [c17, callB, bodyOf]
  simp [Try.f17, e1]
/-- A return. -/
theorem ret_run {f : Fm} {fs' : List Fm} (hf : fs = f :: fs') (hb : f.1 ≤ s) : ∃ H', W.call 17 [ptr k] H = some (.val (.tuple #[iv f.2.2, .bool true]), H') ∧ St H' k sp q rf a s f.1.toNat fs' zs ∧ Same (· = k) H H' := by
  have hbig := h.big
  have hfit := h.fit
  have hus := h.used
  obtain ⟨hfo1, hfo2⟩ := h.fok
  rw [hf] at hfo1 hfo2
  have hff := hfo2 f (by simp)
  simp only [List.length_cons] at hfo1
  obtain ⟨o, H1, e1, rfl, f1⟩ := inner_run h.cur hf (by omega)
  have h2 := (h.same0 f1).same0 (Same.push _ _ (.row true 0 1 [iv f.1, iv f.2.1, iv f.2.2]))
  obtain ⟨⟨v, g1, g2⟩, g3⟩ := h2.cur
  rw [hf] at g2
  obtain ⟨b, c, rfl, e2, g4⟩ := gf_drop g2
  have hk := Heap.lt_of_get g1 (by simp)
  have ff := Same.set (X := (· = k)) (H1.push (.row true 0 1 [iv f.1, iv f.2.1, iv f.2.2])) hk rfl (.row true 0 1 [ptr sp, iv a, iv s, iv f.1, .slice b fs'.length c])
  have hlt := Nat.lt_of_lt_of_le (h.same0 f1).cur.lt (Nat.le_refl _)
  refine ⟨_, ?_, { h2 with cur := ⟨⟨.slice b fs'.length c, by rw [show ((f.1.toNat : Nat) : Int) = f.1 by omega]; exact Heap.get_set_self _ _ hk, g4.same ff (fun i hi e => g3 (by rw [hi, e]))⟩, g3⟩, sto := h2.sto.same ff (fun e => h.ksp e.symm) (fun e => h.kq e.symm), used := by omega, fok := ⟨by omega, fun g hg => hfo2 g (by simp [hg])⟩ }, ((f1.trans (Same.push _ _ _)).mono fun i h => h.elim).trans ff⟩
  have key : Gives (W.call 17 [ptr k] H) fun o H' => o = .val (.tuple #[iv f.2.2, .bool true]) ∧ H' = (H1.push (.row true 0 1 [iv f.1, iv f.2.1, iv f.2.2])).set k (.row true 0 1 [ptr sp, iv a, iv s, iv f.1, .slice b fs'.length c]) := by
    simp only [ptr_eq, iv_eq] at e1 g1 hk e2
    rw [c17, callB, bodyOf]
    simp [Try.f17, e1]
    refine region_plan (by exact pl17) ?_
    simp [g1, e2, wrap64 (fs'.length : Int) (by omega) (by omega), Heap.get_set_self _ _ hk, Heap.set_set, Heap.get_set _ _ _ hk, show ¬ H1.n = k by omega]
  obtain ⟨o, H', e, rfl, rfl⟩ := key
  exact e
end
end Go.Vm.StackLaw
