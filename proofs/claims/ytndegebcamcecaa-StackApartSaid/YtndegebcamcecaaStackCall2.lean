/- What is proved: what locals of package stack are, and what a call turns. -/
import Derived.Test.YtndegebcamcecaaStackCall
namespace Go.Vm.StackLaw
open Go Go.Proofs
set_option maxRecDepth 100000
set_option linter.unusedSimpArgs false
attribute [local simp] repCells_succ writeAt rd_Fr
/-- How many locals the innermost frame has, and where they begin. -/
def nloc : List Fm → Int
  | [] => 0
  | f :: _ => f.2.1
def fbase : List Fm → Int
  | [] => 0
  | f :: _ => f.1
section
variable {H : Heap} {k sp q : Nat} {rf : Option Nat} {a s u : Nat} {fs : List Fm} {zs : List Int} (h : St H k sp q rf a s u fs zs)
set_option linter.unusedSectionVars false
include h
/-- Where a local lies. -/
theorem place_run (i : Int) : ∃ H' z, W.call 27 [ptr k, iv i] H = some (.val (.tuple #[iv z, .bool (decide (0 ≤ i ∧ i < nloc fs))]), H') ∧ (0 ≤ i → i < nloc fs → z = fbase fs + i) ∧ St H' k sp q rf a s u fs zs ∧ Same (fun _ => False) H H' := by
  cases hf : fs with
  | nil =>
    obtain ⟨o, H1, e1, rfl, f1⟩ := inner_nil h.cur hf
    have f2 := f1.trans (Same.push (fun _ => False) H1 (.row true 0 1 [iv 0, iv 0, iv 0]))
    refine ⟨_, IntKind.i64.wrap i, ?_, fun h1 h2 => by simp only [nloc] at h2; omega, hf ▸ h.same0 f2, f2⟩
    have key : Gives (W.call 27 [ptr k, iv i] H) fun o H' => o = .val (.tuple #[iv (IntKind.i64.wrap i), .bool (decide (0 ≤ i ∧ i < nloc []))]) ∧ H' = H1.push (.row true 0 1 [iv 0, iv 0, iv 0]) := by
      simp only [ptr_eq, iv_eq] at e1
      rw [c27, callB, bodyOf]
      simp [Try.f27, e1]
      refine region_quiet (by exact q27) ?_
      simp [nloc]
      by_cases c1 : 0 ≤ i
      · simp [c1, show ¬ i < 0 by omega]
      · simp [c1, show i < 0 by omega]
    obtain ⟨o, H', e, rfl, rfl⟩ := key
    exact e
  | cons f fs' =>
    obtain ⟨hfo1, hfo2⟩ := h.fok
    rw [hf] at hfo1 hfo2
    have hff := hfo2 f (by simp)
    simp only [List.length_cons] at hfo1
    obtain ⟨o, H1, e1, rfl, f1⟩ := inner_run h.cur hf (by omega)
    have f2 := f1.trans (Same.push (fun _ => False) H1 (.row true 0 1 [iv f.1, iv f.2.1, iv f.2.2]))
    refine ⟨_, IntKind.i64.wrap (f.1 + i), ?_, fun h1 h2 => by simp only [nloc] at h2; exact wrap64 _ (by omega) (by omega), hf ▸ h.same0 f2, f2⟩
    have key : Gives (W.call 27 [ptr k, iv i] H) fun o H' => o = .val (.tuple #[iv (IntKind.i64.wrap (f.1 + i)), .bool (decide (0 ≤ i ∧ i < f.2.1))]) ∧ H' = H1.push (.row true 0 1 [iv f.1, iv f.2.1, iv f.2.2]) := by
      simp only [ptr_eq, iv_eq] at e1
      rw [c27, callB, bodyOf]
      simp [Try.f27, e1]
      refine region_quiet (by exact q27) ?_
      by_cases c1 : 0 ≤ i
      · simp [c1]
      · simp [c1]
    obtain ⟨o, H', e, rfl, rfl⟩ := key
    exact e
theorem local_none (i : Int) (hi : ¬ (0 ≤ i ∧ i < nloc fs)) : ∃ H', W.call 16 [ptr k, iv i] H = some (.val (.tuple #[iv 0, .bool false]), H') ∧ Same (fun _ => False) H H' := by
  obtain ⟨H1, z, e1, _, _, f1⟩ := place_run h i
  refine ⟨H1, ?_, f1⟩
  simp only [ptr_eq, iv_eq, decide_eq_false hi] at e1
  rw [c16, callB, bodyOf]
  simp [Try.f16, e1]
theorem local_run (i : Int) (h0 : 0 ≤ i) (hi : i < nloc fs) (ho : 0 ≤ StackLaw.opn u fs) : ∃ H', W.call 16 [ptr k, iv i] H = some (.val (.tuple #[iv (zs.getD (a + (fbase fs + i).toNat) 0), .bool true]), H') ∧ St H' k sp q rf a s u fs zs ∧ Same (fun _ => False) H H' := by
  obtain ⟨H1, z, e1, hz, h1, f1⟩ := place_run h i
  refine ⟨H1, ?_, h1, f1⟩
  obtain rfl := hz h0 hi
  have hus := h.used
  have hb : 0 ≤ fbase fs + i ∧ fbase fs + i < s := by
    cases fs with
    | nil => simp only [nloc] at hi; omega
    | cons f fs' => have := h.fok.2 f (by simp); simp only [StackLaw.opn, nloc, fbase] at *; omega
  have e2 := h1.get (fbase fs + i).toNat (by omega)
  have hk := h1.cur
  obtain ⟨⟨v, g1, _⟩, _⟩ := h1.cur
  simp only [ptr_eq, iv_eq, decide_eq_true (show 0 ≤ i ∧ i < nloc fs from ⟨h0, hi⟩)] at e1 e2 g1
  rw [show (((fbase fs + i).toNat : Nat) : Int) = fbase fs + i by omega] at e2
  rw [c16, callB, bodyOf]
  simp [Try.f16, e1, e2, g1]
theorem set_none (i x : Int) (hi : ¬ (0 ≤ i ∧ i < nloc fs)) : ∃ H', W.call 32 [ptr k, iv i, iv x] H = some (.val (.bool false), H') ∧ Same (fun _ => False) H H' := by
  obtain ⟨H1, z, e1, _, _, f1⟩ := place_run h i
  refine ⟨H1, ?_, f1⟩
  simp only [ptr_eq, iv_eq, decide_eq_false hi] at e1
  rw [c32, callB, bodyOf]
  simp [Try.f32, e1]
theorem set_run (i x : Int) (h0 : 0 ≤ i) (hi : i < nloc fs) (ho : 0 ≤ StackLaw.opn u fs) : ∃ H', W.call 32 [ptr k, iv i, iv x] H = some (.val (.bool true), H') ∧ St H' k sp q rf a s u fs (zs.set (a + (fbase fs + i).toNat) x) ∧ Same (· = q) H H' := by
  obtain ⟨H1, z, e1, hz, h1, f1⟩ := place_run h i
  obtain rfl := hz h0 hi
  have hus := h.used
  have hb : 0 ≤ fbase fs + i ∧ fbase fs + i < s := by
    cases fs with
    | nil => simp only [nloc] at hi; omega
    | cons f fs' => have := h.fok.2 f (by simp); simp only [StackLaw.opn, nloc, fbase] at *; omega
  obtain ⟨H2, e2, h2, f2⟩ := h1.put (fbase fs + i).toNat x (by omega)
  refine ⟨H2, ?_, h2, (f1.mono fun i h => h.elim).trans f2⟩
  obtain ⟨⟨v, g1, _⟩, _⟩ := h1.cur
  simp only [ptr_eq, iv_eq, decide_eq_true (show 0 ≤ i ∧ i < nloc fs from ⟨h0, hi⟩)] at e1 e2 g1
  rw [show (((fbase fs + i).toNat : Nat) : Int) = fbase fs + i by omega] at e2
  rw [c32, callB, bodyOf]
  simp [Try.f32, e1, e2, g1]
/-! ### Calls -/
theorem call_bad (back params locals : Int) (hp : params < 0 ∨ locals < params) : W.call 13 [ptr k, iv back, iv params, iv locals] H = some (.val (iv 1), H) := by
  rw [c13, callB, bodyOf]
  by_cases c1 : params < 0
  · simp [Try.f13, c1]
  · simp [Try.f13, c1, show locals < params by omega]
theorem call_few (back params locals : Int) (h0 : 0 ≤ params) (h1 : params ≤ locals) (h2 : StackLaw.opn u fs < params) : ∃ H', W.call 13 [ptr k, iv back, iv params, iv locals] H = some (.val (iv 4), H') ∧ Same (fun _ => False) H H' := by
  obtain ⟨H1, e1, _, f1⟩ := h.opn
  refine ⟨H1, ?_, f1⟩
  simp only [ptr_eq, iv_eq] at e1
  rw [c13, callB, bodyOf]
  simp [Try.f13, show ¬ params < 0 by omega, show ¬ locals < params by omega, e1, h2]
theorem call_full (back params locals : Int) (h0 : 0 ≤ params) (h1 : params ≤ locals) (h2 : params ≤ StackLaw.opn u fs) (h3 : locals ≤ 9223372036854775807) (h4 : (s : Int) - u - 2 < locals - params) : ∃ H', W.call 13 [ptr k, iv back, iv params, iv locals] H = some (.val (iv 41), H') ∧ Same (fun _ => False) H H' := by
  obtain ⟨H1, e1, T1, f1⟩ := h.opn
  refine ⟨H1, ?_, f1⟩
  have hbig := h.big
  have hfit := h.fit
  have hus := h.used
  have key : Gives (W.call 13 [ptr k, iv back, iv params, iv locals] H) fun o H' => o = .val (iv 41) ∧ H' = H1 := by
    obtain ⟨⟨v, g1, _⟩, _⟩ := T1.cur
    simp only [ptr_eq, iv_eq] at e1 g1
    rw [c13, callB, bodyOf]
    simp [Try.f13, show ¬ params < 0 by omega, show ¬ locals < params by omega, e1, show ¬ StackLaw.opn u fs < params by omega]
    refine region_quiet (by exact q13) ?_
    simp [g1, wrap64 (locals - params) (by omega) (by omega), wrap64 ((s : Int) - u) (by omega) (by omega), wrap64 ((s : Int) - u - 2) (by omega) (by omega), h4]
  obtain ⟨o, H', e, rfl, rfl⟩ := key
  exact e
end
end Go.Vm.StackLaw
