/- What is proved: what the functions of package store hand back, and what they turn. -/
import Derived.Test.YtifbhohifhnkiaaVmTab
import Derived.Test.YtifbhohifhnkiaaVmK
namespace Go.Vm.StoreLaw
open Go Go.Proofs
set_option maxRecDepth 100000
set_option linter.unusedSimpArgs false
/-- 'awake' is summed up: it hands back true. -/
def E1 : Hooks := pureHooks fun f args => match f, args with | 15, [] => some (.bool true) | _, _ => none
noncomputable abbrev W : Runs := run Try.prog E1

theorem mixed : Try.prog.follows .mixedOrders = true := by kernel_rfl
theorem awake_runs : isTrueOut ((runs Try.prog noHooks 60).call 15 [] Heap.empty) = true := by decide +kernel
theorem E1_ok (N : Nat) (W0 : World) : CallOK Try.prog N W0 E1.run := by
  refine pureHooks_ok mixed (E := noHooks) (fun _ _ => noHooks_ok) ?_ N W0
  intro f args v h _ _
  split at h
  · simp only [Option.some.injEq] at h
    subst h
    obtain ⟨H', h⟩ := isTrueOut_some awake_runs
    exact ⟨H', run_of_runs h⟩
  · cases h

theorem len_nil (H : Heap) : W.call 24 [.pointer none] H = some (.val (.int .i64 0), H) := by
  rw [call_fn Try.func24 rfl (by decide +kernel) rfl]
  simp [Try.f24]
theorem words_nil (H : Heap) : W.call 26 [.pointer none] H = some (.val (.slice none 0 0), H) := by
  rw [call_fn Try.func26 rfl (by decide +kernel) rfl]
  simp [Try.f26]
theorem get_nil (H : Heap) (k : Int) : W.call 18 [.pointer none, .int .i64 k] H = some (.val (.tuple #[.int .i64 0, .bool false]), H) := by
  rw [call_fn Try.func18 rfl (by decide +kernel) rfl]
  by_cases h1 : k < 0
  · simp [Try.f18, h1]
  · simp [Try.f18, h1, len_nil, show 0 ≤ k by omega]
theorem put_nil (H : Heap) (k x : Int) : W.call 20 [.pointer none, .int .i64 k, .int .i64 x] H = some (.val (.bool false), H) := by
  rw [call_fn Try.func20 rfl (by decide +kernel) rfl]
  by_cases h1 : k < 0
  · simp [Try.f20, h1]
  · simp [Try.f20, h1, len_nil, show 0 ≤ k by omega]
theorem clear_nil (H : Heap) (k x : Int) : W.call 22 [.pointer none, .int .i64 k, .int .i64 x] H = some (.val (.bool false), H) := by
  rw [call_fn Try.func22 rfl (by decide +kernel) rfl]
  simp [Try.f22]
theorem new_bad (H : Heap) (n : Int) (h : n < 0 ∨ 8192 < n) : W.call 16 [.int .i64 n] H = some (.val (.tuple #[.pointer none, .int .i64 1]), H) := by
  rw [call_fn Try.func16 rfl (by decide +kernel) rfl]
  by_cases h1 : n < 0
  · simp [Try.f16, h1]
  · simp [Try.f16, h1, show 8192 < n by omega]
theorem new_ok (H : Heap) (n : Nat) (h2 : n ≤ 8192) : W.call 16 [.int .i64 n] H = some (.val (.tuple #[.pointer (some ⟨H.n + 1, 0, none⟩), .int .i64 0]),
    (H.push (.row true 0 1 (repCells n [.int .i64 0]))).push (.row true 0 1 [.slice (some ⟨H.n, 0, none⟩) n n])) := by
  rw [call_fn Try.func16 rfl (by decide +kernel) rfl]
  simp [Try.f16, show ¬ (n : Int) < 0 by omega, show ¬ 8192 < (n : Int) by omega, show (n : Int) ≤ 9223372036854775807 by omega, show 8 * (n : Int) ≤ 281474976710656 by omega]
theorem awake_true (H : Heap) : W.call 15 [] H = some (.val (.bool true), H) := by
  rw [run_call]; rfl

/-- A store: its place, its words' place, its words. -/
structure IsStore (H : Heap) (p q : Nat) (ws : List Value) : Prop where
  store : H.get p = .row true 0 1 [.slice (some ⟨q, 0, none⟩) ws.length ws.length]
  words : H.get q = .row true 0 1 ws
  ne : p ≠ q

theorem IsStore.new (H : Heap) (ws : List Value) : IsStore ((H.push (.row true 0 1 ws)).push (.row true 0 1 [.slice (some ⟨H.n, 0, none⟩) ws.length ws.length])) (H.n + 1) H.n ws where
  store := by simp [Heap.get_push]
  words := by simp [Heap.get_push]
  ne := by omega
theorem IsStore.lt {H : Heap} {p q : Nat} {ws : List Value} (h : IsStore H p q ws) : q < H.n := Heap.lt_of_get h.words (by simp)
theorem IsStore.push {H : Heap} {p q : Nat} {ws : List Value} (h : IsStore H p q ws) (o : AObj) : IsStore (H.push o) p q ws where
  store := by rw [Heap.get_push, if_neg (Nat.ne_of_lt (Heap.lt_of_get h.store (by simp)))]; exact h.store
  words := by rw [Heap.get_push, if_neg (Nat.ne_of_lt h.lt)]; exact h.words
  ne := h.ne
/-- Where neither the store nor its words are turned. -/
theorem IsStore.same {X : Nat → Prop} {H H' : Heap} {p q : Nat} {ws : List Value} (h : IsStore H p q ws) (k : Same X H H') (hp : ¬ X p) (hq : ¬ X q) : IsStore H' p q ws :=
  ⟨k.at h.store (by simp) hp, k.at h.words (by simp) hq, h.ne⟩
theorem IsStore.set {H : Heap} {p q : Nat} {ws : List Value} (h : IsStore H p q ws) (ws' : List Value) (hl : ws'.length = ws.length) : IsStore (H.set q (.row true 0 1 ws')) p q ws' where
  store := by rw [Heap.get_set _ _ _ h.lt, if_neg h.ne, hl]; exact h.store
  words := by rw [Heap.get_set _ _ _ h.lt, if_pos rfl]
  ne := h.ne

section
variable {H : Heap} {p q : Nat} {ws : List Value} (h : IsStore H p q ws)
set_option linter.unusedSectionVars false
include h
theorem len_run : W.call 24 [.pointer (some ⟨p, 0, none⟩)] H = some (.val (.int .i64 ws.length), H) := by
  rw [call_fn Try.func24 rfl (by decide +kernel) rfl]
  simp [Try.f24, h.store]
theorem get_lt (k : Int) (h1 : k < 0) : W.call 18 [.pointer (some ⟨p, 0, none⟩), .int .i64 k] H = some (.val (.tuple #[.int .i64 0, .bool false]), H) := by
  rw [call_fn Try.func18 rfl (by decide +kernel) rfl]
  simp [Try.f18, h1]
theorem get_ge (k : Int) (h1 : ws.length ≤ k) : W.call 18 [.pointer (some ⟨p, 0, none⟩), .int .i64 k] H = some (.val (.tuple #[.int .i64 0, .bool false]), H) := by
  rw [call_fn Try.func18 rfl (by decide +kernel) rfl]
  simp [Try.f18, h1, show ¬ k < 0 by omega, len_run h]
theorem get_in (k : Nat) (v : Value) (h1 : ws[k]? = some v) : W.call 18 [.pointer (some ⟨p, 0, none⟩), .int .i64 k] H = some (.val (.tuple #[v, .bool true]), H) := by
  have h2 := (List.getElem?_eq_some_iff.1 h1).1
  rw [call_fn Try.func18 rfl (by decide +kernel) rfl]
  simp [Try.f18, show ¬ (k : Int) < 0 by omega, show ¬ ws.length ≤ k by omega, len_run h, h.store, h.words, h1, h2]
  exact (List.getElem?_eq_some_iff.1 h1).2
theorem put_lt (k x : Int) (h1 : k < 0) : W.call 20 [.pointer (some ⟨p, 0, none⟩), .int .i64 k, .int .i64 x] H = some (.val (.bool false), H) := by
  rw [call_fn Try.func20 rfl (by decide +kernel) rfl]
  simp [Try.f20, h1]
theorem put_ge (k x : Int) (h1 : ws.length ≤ k) : W.call 20 [.pointer (some ⟨p, 0, none⟩), .int .i64 k, .int .i64 x] H = some (.val (.bool false), H) := by
  rw [call_fn Try.func20 rfl (by decide +kernel) rfl]
  simp [Try.f20, h1, show ¬ k < 0 by omega, len_run h]
theorem put_in (k : Nat) (x : Int) (h1 : k < ws.length) : W.call 20 [.pointer (some ⟨p, 0, none⟩), .int .i64 k, .int .i64 x] H = some (.val (.bool true), H.set q (.row true 0 1 (ws.set k (.int .i64 x)))) := by
  rw [call_fn Try.func20 rfl (by decide +kernel) rfl]
  simp [Try.f20, show ¬ (k : Int) < 0 by omega, show ¬ ws.length ≤ k by omega, len_run h, h.store, h.words, h1, writeAt_one _ _ _ h1, show k + 1 ≤ ws.length by omega]
end
theorem put_store {H : Heap} {p q : Nat} {ws : List Value} (h : IsStore H p q ws) (k : Nat) (x : Int) (h1 : k < ws.length) :
    ∃ H', W.call 20 [.pointer (some ⟨p, 0, none⟩), .int .i64 k, .int .i64 x] H = some (.val (.bool true), H') ∧ IsStore H' p q (ws.set k (.int .i64 x)) :=
  ⟨_, put_in h k x h1, h.set _ (by simp)⟩
theorem clear_no {H : Heap} {p q : Nat} {ws : List Value} (h : IsStore H p q ws) (k x : Int) (hl : ws.length ≤ 8192) (h1 : ¬ (0 ≤ k ∧ k ≤ ws.length ∧ 0 ≤ x ∧ x ≤ ws.length - k)) :
    W.call 22 [.pointer (some ⟨p, 0, none⟩), .int .i64 k, .int .i64 x] H = some (.val (.bool false), H) := by
  rw [call_fn Try.func22 rfl (by decide +kernel) rfl]
  by_cases h2 : x < 0
  · simp [Try.f22, h2]
  by_cases h3 : k < 0
  · simp [Try.f22, h2, h3]
  by_cases h4 : (ws.length : Int) < k
  · simp [Try.f22, h2, h3, h4, h.store]
  · simp [Try.f22, h2, h3, h4, h.store, Go.Vm.wrap64 ((ws.length : Int) - k) (by omega) (by omega), show ((ws.length : Int) - k) < x by omega]
theorem clear_ok {H : Heap} {p q : Nat} {ws : List Value} (h : IsStore H p q ws) (k x : Nat) (hl : ws.length ≤ 8192) (h1 : k + x ≤ ws.length) :
    Gives (W.call 22 [.pointer (some ⟨p, 0, none⟩), .int .i64 k, .int .i64 x] H) fun o H' => o = .val (.bool true) ∧ IsStore H' p q (writeAt ws k (List.replicate x (.int .i64 0))) ∧ Same (· = q) H H' := by
  rw [call_fn Try.func22 rfl (by decide +kernel) rfl]
  by_cases hx : x = 0
  · subst hx
    have e : writeAt ws k [] = ws := by simp [writeAt]
    simp [Try.f22, show ¬ (k : Int) < 0 by omega, show ¬ ws.length < k by omega, show k ≤ ws.length by omega, h.store, h.words, Go.Vm.wrap64 ((ws.length : Int) - k) (by omega) (by omega), show ¬ ((ws.length : Int) - k) < 0 by omega, Go.Vm.wrap64 (k : Int) (by omega) (by omega), cutA, exClear, e, h, Same.refl]
  · have := h.set (writeAt ws k (List.replicate x (.int .i64 0))) (by simp [writeAt]; omega)
    simp [Try.f22, show ¬ (x : Int) < 0 by omega, show ¬ (k : Int) < 0 by omega, show ¬ ws.length < k by omega, h.store, h.words, Go.Vm.wrap64 ((ws.length : Int) - k) (by omega) (by omega), show ¬ ((ws.length : Int) - k) < x by omega, Go.Vm.wrap64 ((k : Int) + x) (by omega) (by omega), cutA, exClear, repCells_one, hx,
      show (k : Int) ≤ k + x by omega, show (k : Int) + x ≤ ws.length by omega, show ¬ ((k : Int) + x = k) by omega, show ((k : Int) + x).toNat - k = x by omega, show k + x ≤ ws.length by omega, this, Same.set (X := (· = q)) H h.lt rfl]
theorem words_run {H : Heap} {p q : Nat} {ws : List Value} (h : IsStore H p q ws) (hl : ws.length ≤ 8192) :
    Gives (W.call 26 [.pointer (some ⟨p, 0, none⟩)] H) fun o H' => ∃ a c tl, o = .val (.slice (some ⟨a, 0, none⟩) ws.length c) ∧ H'.get a = .row true tl 1 ws ∧ H.n ≤ a ∧ Same (fun _ => False) H H' := by
  rw [call_fn Try.func26 rfl (by decide +kernel) rfl]
  have hp := Heap.lt_of_get h.store (by simp)
  have hq := h.lt
  by_cases hw : ws = []
  · subst hw
    simp [Try.f26, h.store, call_fn (E := E1) Try.func52 rfl (by decide +kernel) rfl, Try.f52, Try.underlying37, exAppend, h.words, Heap.get_push]
    exact Same.push _ _ _
  · simp [Try.f26, h.store, call_fn (E := E1) Try.func52 rfl (by decide +kernel) rfl, Try.f52, Try.underlying37, exAppend, h.words, Heap.get_push, show q ≠ H.n by omega, hw, show (ws.length + 200) * 8 ≤ 140737488355328 by omega, show ws.length ≤ 140737488355328 by omega]
    exact (Same.push _ _ _).trans (Same.push _ _ _)
theorem new_store (H : Heap) (n : Nat) (h2 : n ≤ 8192) : ∃ H' p q, W.call 16 [.int .i64 n] H = some (.val (.tuple #[.pointer (some ⟨p, 0, none⟩), .int .i64 0]), H') ∧ IsStore H' p q (List.replicate n (.int .i64 0)) := by
  refine ⟨_, _, H.n, new_ok H n h2, ?_⟩
  have := IsStore.new H (List.replicate n (.int .i64 0))
  rw [List.length_replicate] at this
  rw [repCells_one]
  exact this
end Go.Vm.StoreLaw
