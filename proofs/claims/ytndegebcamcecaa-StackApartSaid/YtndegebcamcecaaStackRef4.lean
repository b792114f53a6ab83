/- What is proved: what the reference's stack turns: new ones, returns, calls. -/
import Derived.Test.YtndegebcamcecaaStackRef3
namespace Go.Vm.StackLaw
open Go Go.Proofs
set_option maxRecDepth 100000
set_option linter.unusedSimpArgs false
attribute [local simp] repCells_succ writeAt rd_Fr
theorem rtop_of {H : Heap} {t fr n cap : Nat} {z : Value} (h1 : H.get t = .row true 0 1 [z, .slice (some ⟨fr, 0, none⟩) (n + 1) cap]) (hl : n ≤ 10000) : W.call 42 [ptr t] H = some (.val (.pointer (some ⟨fr, n * 3, none⟩)), H) := by
  have key : Gives (W.call 42 [ptr t] H) fun o H' => o = .val (.pointer (some ⟨fr, n * 3, none⟩)) ∧ H' = H := by
    rw [c42, callB, bodyOf]
    simp [Try.f42]
    refine region_quiet (by exact r42) ?_
    simp [h1, wrap64 (n : Int) (by omega) (by omega), show (n : Int) < n + 1 by omega]
  obtain ⟨o, H', e, rfl, rfl⟩ := key
  exact e
/-- A new one. -/
def outer : RF := ⟨0, .slice none 0 0, .slice none 0 0, [], [], none, none⟩
theorem rnew_run (H : Heap) (size : Nat) : ∃ H', W.call 18 [iv size] H = some (.val (ptr (H.n + 1)), H') ∧ RS H' (H.n + 1) H.n size [outer] ∧ Same (fun _ => False) H H' := by
  refine ⟨(H.push (.row true 0 3 [iv 0, .slice none 0 0, .slice none 0 0])).push (.row true 0 1 [iv size, .slice (some ⟨H.n, 0, none⟩) 1 1]), ?_, ⟨⟨1, [iv 0, .slice none 0 0, .slice none 0 0], 0, Heap.get_push_self (H.push _) _, ?_, by simp, by simp, rfl⟩, ?_, by simp [rowsOf, outer]⟩, (Same.push _ _ _).trans (Same.push _ _ _)⟩
  · rw [c18, callB, bodyOf]
    simp [Try.f18]
  · rw [Heap.get_push, if_neg (by simp)]; exact Heap.get_push_self H _
  · intro f hf
    obtain rfl := List.mem_singleton.1 hf
    exact ⟨.inl ⟨rfl, rfl, rfl⟩, .inl ⟨rfl, rfl, rfl⟩⟩
section
variable {H : Heap} {t fr size : Nat} {f : RF} {fs : List RF} (h : RS H t fr size (f :: fs))
set_option linter.unusedSectionVars false
include h
theorem rret_none (hf : fs = []) : W.call 31 [ptr t] H = some (.val (.tuple #[iv 0, .bool false]), H) := by
  obtain ⟨cap, cs, tl, b1, c1, b2, c2, h1, h2, h3, h4, q0, q1, q2, _, e3⟩ := RS.top h
  subst hf
  simp only [ptr_eq, iv_eq, List.length_nil] at h1
  rw [c31, callB, bodyOf]
  simp [Try.f31, h1]
theorem rret_run (hf : fs ≠ []) (hl : fs.length ≤ 10000) : ∃ H', W.call 31 [ptr t] H = some (.val (.tuple #[iv f.back, .bool true]), H') ∧ RS H' t fr size fs ∧ Same (· = t) H H' := by
  obtain ⟨cap, cs, tl, b1, c1, b2, c2, h1, h2, h3, h4, q0, q1, q2, _, e3⟩ := RS.top h
  have hn : fs.length ≠ 0 := fun e => hf (List.eq_nil_of_length_eq_zero e)
  have ht := Heap.lt_of_get h1 (by simp)
  obtain ⟨n1, n2, n3, n4, n5, n6⟩ := (nd_iff _ _ _ _).1 h.nd
  have ff := Same.set (X := (· = t)) H ht rfl (.row true 0 1 [iv size, .slice (some ⟨fr, 0, none⟩) fs.length cap])
  refine ⟨_, ?_, ⟨⟨cap, cs, tl, Heap.get_set_self _ _ ht, ff.at h2 (by simp) (fun e => n1 e.symm), by omega, by omega, ?_⟩, fun g hg => (h.ok g (by simp [hg])).same ff (fun i hi e => n2 (by rw [← e]; exact mem_rows hg hi)), by simp only [List.nodup_cons, List.mem_cons, not_or]; exact ⟨⟨n1, n2⟩, n3, n4⟩⟩, ff⟩
  · simp only [ptr_eq, iv_eq] at h1 q0
    rw [c31, callB, bodyOf]
    cases tl <;> simp [Try.f31, h1, h2, q0, hn, show ¬ ((fs.length : Int) + 1 = 1) by omega, wrap64 (fs.length : Int) (by omega) (by omega), show (fs.length : Int) < fs.length + 1 by omega, cutA, show (fs.length : Int) ≤ cap by omega, show fs.length ≤ cap by omega]
  · obtain ⟨⟨cap', cs', tl', _, h2', _, _, h5⟩, _, _⟩ := h
    rw [h2] at h2'
    cases h2'
    have := congrArg (List.take (fs.length * 3)) h5
    rw [List.take_take, flatG, List.length_cons, Nat.min_eq_left (by omega), List.take_append_of_le_length (by rw [flatG_len]; exact Nat.le_refl _)] at this
    exact this.trans (List.take_of_length_le (by rw [flatG_len]; exact Nat.le_refl _))
theorem rcall_bad (back params locals : Int) (hp : params < 0 ∨ locals < params) : W.call 30 [ptr t, iv back, iv params, iv locals] H = some (.val (iv 1), H) := by
  rw [c30, callB, bodyOf]
  by_cases c1 : params < 0
  · simp [Try.f30, c1]
  · simp [Try.f30, c1, show locals < params by omega]
theorem rcall_few (hl : fs.length ≤ 10000) (back params locals : Int) (h0 : 0 ≤ params) (h1 : params ≤ locals) (h2 : (f.ops.length : Int) < params) : W.call 30 [ptr t, iv back, iv params, iv locals] H = some (.val (iv 4), H) := by
  have e := rops_run h hl
  simp only [ptr_eq, iv_eq] at e
  rw [c30, callB, bodyOf]
  simp [Try.f30, show ¬ params < 0 by omega, show ¬ locals < params by omega, e, h2]
theorem rcall_full (hl : fs.length ≤ 9999) (hb : tot (f :: fs) ≤ 1000000) (hsz : size ≤ 1000000) (back params locals : Int) (h0 : 0 ≤ params) (h1 : params ≤ locals) (h2 : params ≤ (f.ops.length : Int)) (h3 : (size : Int) < locals ∨ (size : Int) < tot (f :: fs) + 2 + locals - params) (h4 : f.ops.length ≤ 900000) :
    W.call 30 [ptr t, iv back, iv params, iv locals] H = some (.val (iv 41), H) := by
  have key : Gives (W.call 30 [ptr t, iv back, iv params, iv locals] H) fun o H' => o = .val (iv 41) ∧ H' = H := by
    have e := rops_run h (by omega)
    have e2 := rlen_run h (by simp only [List.length_cons]; omega) hb
    obtain ⟨cap, cs, tl, b1, c1, b2, c2, g1, g2, g3, g4, q0, q1, q2, _, e3⟩ := RS.top h
    simp only [ptr_eq, iv_eq] at e e2 g1
    generalize tot (f :: fs) = T at *
    rw [c30, callB, bodyOf]
    simp [Try.f30, show ¬ params < 0 by omega, show ¬ locals < params by omega, e, show ¬ (f.ops.length : Int) < params by omega]
    refine region_plan (by exact r30) ?_
    by_cases c1 : (size : Int) < locals
    · simp [g1, c1]
    · simp [g1, c1, e2, wrap64 ((T : Int) + 2) (by omega) (by omega), wrap64 ((T : Int) + 2 + locals) (by omega) (by omega), wrap64 ((T : Int) + 2 + locals - params) (by omega) (by omega), show (size : Int) < T + 2 + locals - params by omega]
  obtain ⟨o, H', e, rfl, rfl⟩ := key
  exact e
end
end Go.Vm.StackLaw
