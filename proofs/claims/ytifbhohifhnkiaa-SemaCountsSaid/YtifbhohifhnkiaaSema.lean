/- What is proved: what the functions of package sema and of its reference hand back, and what they turn. -/
import Derived.Test.YtifbhohifhnkiaaVmTab
import Derived.Test.YtifbhohifhnkiaaGL
namespace Go.Vm.SemaLaw
open Go Go.Proofs
set_option maxRecDepth 100000
set_option linter.unusedSimpArgs false
attribute [local simp] repCells_succ writeAt
/-- What sync/atomic does with whole numbers. -/
def EA : Hooks := hookAt 64 (atomPut false false) (hookAt 65 atomLoad (hookAt 66 (atomPut true true) noHooks))
theorem mixed : Try.prog.follows .mixedOrders = true := by kernel_rfl
theorem EA_ok (N : Nat) (W0 : World) : CallOK Try.prog N W0 EA.run :=
  hookAt_ok (atomStore_ok Try.func64 (by decide +kernel) rfl rfl rfl) (hookAt_ok (atomLoad_ok Try.func65 (by decide +kernel) rfl rfl rfl) (hookAt_ok (atomAdd_ok Try.func66 (by decide +kernel) rfl rfl rfl) noHooks_ok))
theorem awake_runs : isTrueOut ((runs Try.prog EA 60).call 27 [] Heap.empty) = true := by decide +kernel
/-- 'awake' is summed up besides. -/
def E1 : Hooks := hookAt 64 (atomPut false false) (hookAt 65 atomLoad (hookAt 66 (atomPut true true) (pureHooks fun f args => match f, args with | 27, [] => some (.bool true) | _, _ => none)))
noncomputable abbrev W : Runs := run Try.prog E1
theorem E1_ok (N : Nat) (W0 : World) : CallOK Try.prog N W0 E1.run := by
  refine hookAt_ok (atomStore_ok Try.func64 (by decide +kernel) rfl rfl rfl) (hookAt_ok (atomLoad_ok Try.func65 (by decide +kernel) rfl rfl rfl) (hookAt_ok (atomAdd_ok Try.func66 (by decide +kernel) rfl rfl rfl) (pureHooks_ok mixed (E := EA) EA_ok ?_ N W0)))
  intro f args v h _ _
  split at h
  · simp only [Option.some.injEq] at h
    subst h
    obtain ⟨H', h⟩ := isTrueOut_some awake_runs
    exact ⟨H', run_of_runs h⟩
  · cases h
theorem awake_true (H : Heap) : W.call 27 [] H = some (.val (.bool true), H) := by
  rw [run_call]; rfl
theorem intT : IntT Try.prog 37 3 := ⟨elem37, size3, bytes3, zero3, Try.underlying37⟩

theorem h65 (args : List Value) (H : Heap) : W.call 65 args H = atomLoad args H := hook_call (E := E1) rfl
theorem h64 (args : List Value) (H : Heap) : W.call 64 args H = atomPut false false args H := hook_call (E := E1) rfl
theorem h66 (args : List Value) (H : Heap) : W.call 66 args H = atomPut true true args H := hook_call (E := E1) rfl
/-- What a semaphore holds. -/
structure Sm where
  first : Int
  value : Int
  ps : Int
  vs : Int
  waits : List Int
/-- The program's semaphore: its place, its list's row. -/
structure IsP (H : Heap) (p : Nat) (r : Option Nat) (s : Sm) : Prop where
  lst : ∃ v, H.get p = .row true 0 1 [iv s.value, iv s.first, iv s.ps, iv s.vs, v] ∧ GL H v s.waits r
  ne : r ≠ some p
structure IsR (H : Heap) (p : Nat) (r : Option Nat) (s : Sm) : Prop where
  lst : ∃ v, H.get p = .row true 0 1 [iv s.first, iv s.value, iv s.ps, iv s.vs, v] ∧ GL H v s.waits r
  ne : r ≠ some p
theorem IsP.same {X : Nat → Prop} {H H' : Heap} {p : Nat} {r : Option Nat} {s : Sm} (h : IsP H p r s) (k : Same X H H') (hp : ¬ X p) (hr : ∀ i, r = some i → ¬ X i) : IsP H' p r s := by
  obtain ⟨⟨v, h1, h2⟩, h3⟩ := h
  exact ⟨⟨v, k.at h1 (by simp) hp, h2.same k hr⟩, h3⟩
theorem IsR.same {X : Nat → Prop} {H H' : Heap} {p : Nat} {r : Option Nat} {s : Sm} (h : IsR H p r s) (k : Same X H H') (hp : ¬ X p) (hr : ∀ i, r = some i → ¬ X i) : IsR H' p r s := by
  obtain ⟨⟨v, h1, h2⟩, h3⟩ := h
  exact ⟨⟨v, k.at h1 (by simp) hp, h2.same k hr⟩, h3⟩
def ptr (p : Nat) : Value := .pointer (some ⟨p, 0, none⟩)
@[simp] theorem ptr_eq (p : Nat) : ptr p = .pointer (some ⟨p, 0, none⟩) := id rfl

theorem c25 (args : List Value) (H : Heap) : W.call 25 args H = callB Try.prog E1 Try.f25 args H := call_B Try.func25 rfl (by decide +kernel) rfl args H
theorem c28 (args : List Value) (H : Heap) : W.call 28 args H = callB Try.prog E1 Try.f28 args H := call_B Try.func28 rfl (by decide +kernel) rfl args H
theorem c29 (args : List Value) (H : Heap) : W.call 29 args H = callB Try.prog E1 Try.f29 args H := call_B Try.func29 rfl (by decide +kernel) rfl args H
theorem c30 (args : List Value) (H : Heap) : W.call 30 args H = callB Try.prog E1 Try.f30 args H := call_B Try.func30 rfl (by decide +kernel) rfl args H
theorem c31 (args : List Value) (H : Heap) : W.call 31 args H = callB Try.prog E1 Try.f31 args H := call_B Try.func31 rfl (by decide +kernel) rfl args H
theorem c32 (args : List Value) (H : Heap) : W.call 32 args H = callB Try.prog E1 Try.f32 args H := call_B Try.func32 rfl (by decide +kernel) rfl args H
theorem c33 (args : List Value) (H : Heap) : W.call 33 args H = callB Try.prog E1 Try.f33 args H := call_B Try.func33 rfl (by decide +kernel) rfl args H
theorem c34 (args : List Value) (H : Heap) : W.call 34 args H = callB Try.prog E1 Try.f34 args H := call_B Try.func34 rfl (by decide +kernel) rfl args H
theorem c35 (args : List Value) (H : Heap) : W.call 35 args H = callB Try.prog E1 Try.f35 args H := call_B Try.func35 rfl (by decide +kernel) rfl args H
theorem c36 (args : List Value) (H : Heap) : W.call 36 args H = callB Try.prog E1 Try.f36 args H := call_B Try.func36 rfl (by decide +kernel) rfl args H
theorem c37 (args : List Value) (H : Heap) : W.call 37 args H = callB Try.prog E1 Try.f37 args H := call_B Try.func37 rfl (by decide +kernel) rfl args H
theorem c38 (args : List Value) (H : Heap) : W.call 38 args H = callB Try.prog E1 Try.f38 args H := call_B Try.func38 rfl (by decide +kernel) rfl args H
theorem c52 (args : List Value) (H : Heap) : W.call 52 args H = callB Try.prog E1 Try.f52 args H := call_B Try.func52 rfl (by decide +kernel) rfl args H
theorem c53 (args : List Value) (H : Heap) : W.call 53 args H = callB Try.prog E1 Try.f53 args H := call_B Try.func53 rfl (by decide +kernel) rfl args H
theorem c54 (args : List Value) (H : Heap) : W.call 54 args H = callB Try.prog E1 Try.f54 args H := call_B Try.func54 rfl (by decide +kernel) rfl args H
theorem c55 (args : List Value) (H : Heap) : W.call 55 args H = callB Try.prog E1 Try.f55 args H := call_B Try.func55 rfl (by decide +kernel) rfl args H
theorem c56 (args : List Value) (H : Heap) : W.call 56 args H = callB Try.prog E1 Try.f56 args H := call_B Try.func56 rfl (by decide +kernel) rfl args H
theorem c57 (args : List Value) (H : Heap) : W.call 57 args H = callB Try.prog E1 Try.f57 args H := call_B Try.func57 rfl (by decide +kernel) rfl args H
theorem new_bad (H : Heap) (n : Int) (h : n < 0 ∨ 1000 < n) : W.call 28 [.int .i64 n] H = some (.val (.tuple #[.pointer none, .int .i64 1]), H) := by
  rw [c28, callB, bodyOf]
  by_cases h1 : n < 0
  · simp [Try.f28, h1]
  · simp [Try.f28, h1, show 1000 < n by omega]
theorem new_ok (H : Heap) (n : Int) (h : ¬ (n < 0 ∨ 1000 < n)) (_ : True) : Gives (W.call 28 [.int .i64 n] H) fun o H' => o = .val (.tuple #[ptr H.n, .int .i64 0]) ∧ IsP H' H.n none ⟨n, n, 0, 0, []⟩ ∧ Same (fun _ => False) H H' := by
  rw [c28, callB, bodyOf]
  simp [Try.f28, show ¬ n < 0 by omega, show ¬ 1000 < n by omega, c53, callB, bodyOf, Try.f53, h64]
  exact ⟨⟨⟨_, by simp, GL.nil _⟩, by simp⟩, Same.push _ _ _⟩
theorem rin (H : Heap) (x a b : Int) : W.call 54 [.int .i64 x, .int .i64 a, .int .i64 b] H = some (.val (.bool (decide (a ≤ x ∧ x ≤ b))), H) := by
  rw [c54, callB, bodyOf]
  by_cases h1 : a ≤ x
  · by_cases h2 : x ≤ b <;> simp [Try.f54, h1, h2]
  · simp [Try.f54, h1]
theorem rnew_bad (H : Heap) (n : Int) (h : n < 0 ∨ 1000 < n) : W.call 29 [.int .i64 n] H = some (.val (.tuple #[.pointer none, .int .i64 1]), H) := by
  rw [c29, callB, bodyOf]
  simp [Try.f29, rin, show ¬ (0 ≤ n ∧ n ≤ 1000) by omega]
theorem rnew_ok (H : Heap) (n : Int) (h : ¬ (n < 0 ∨ 1000 < n)) (_ : True) : Gives (W.call 29 [.int .i64 n] H) fun o H' => o = .val (.tuple #[ptr H.n, .int .i64 0]) ∧ IsR H' H.n none ⟨n, n, 0, 0, []⟩ ∧ Same (fun _ => False) H H' := by
  rw [c29, callB, bodyOf]
  simp [Try.f29, rin, show 0 ≤ n ∧ n ≤ 1000 by omega]
  exact ⟨⟨⟨_, by simp, GL.nil _⟩, by simp⟩, Same.push _ _ _⟩

/-- What P and V do. -/
def Sm.p (s : Sm) (pid : Int) : Bool × Sm :=
  if pid < 1 then (false, s) else if 0 < s.value then (true, { s with value := s.value - 1, ps := s.ps + 1 }) else (false, { s with waits := s.waits ++ [pid] })
def Sm.v (s : Sm) : Int × Sm := match s.waits with
  | [] => (0, { s with vs := s.vs + 1, value := s.value + 1 })
  | x :: xs => (x, { s with vs := s.vs + 1, ps := s.ps + 1, waits := xs })
/-- After at most so many calls. -/
structure Sm.ok (s : Sm) (k : Nat) : Prop where
  v0 : 0 ≤ s.value
  v1 : s.value ≤ 1000 + k
  p0 : 0 ≤ s.ps
  p1 : s.ps ≤ k
  s0 : 0 ≤ s.vs
  s1 : s.vs ≤ k
  w : s.waits.length ≤ k
theorem Sm.ok.p {s : Sm} {k : Nat} (h : s.ok k) (pid : Int) : (s.p pid).2.ok (k + 1) := by
  obtain ⟨h1, h2, h3, h4, h5, h6, h7⟩ := h
  unfold Sm.p
  split
  · constructor <;> simp <;> omega
  · split
    · constructor <;> simp <;> omega
    · constructor <;> simp <;> omega
theorem Sm.ok.v {s : Sm} {k : Nat} (h : s.ok k) : s.v.2.ok (k + 1) := by
  obtain ⟨h1, h2, h3, h4, h5, h6, h7⟩ := h
  unfold Sm.v
  cases hw : s.waits with
  | nil => constructor <;> simp <;> omega
  | cons x xs => rw [hw] at h7; simp at h7; constructor <;> simp <;> omega

/-- The slices' functions that copy. -/
theorem copy57 {H : Heap} {x : Value} {xs : List Int} (h : SL H x xs) (hl : xs.length ≤ 1000000) :
    Gives (W.call 57 [x] H) fun o H' => ∃ v r, o = .val v ∧ H.n ≤ r ∧ GL H' v xs (some r) ∧ Same (fun _ => False) H H' := by
  obtain ⟨v, H', e1, ⟨r, h1, h2⟩, h3⟩ := dup_run intT h hl
  rw [c57, callB, bodyOf]
  simp [Try.f57, e1]
  exact ⟨r, h1, h2, h3⟩
/-- Clone: nil of nil. -/
theorem clone52 {H : Heap} {x : Value} {xs : List Int} (h : SL H x xs) (hl : xs.length ≤ 1000000) :
    Gives (W.call 52 [x] H) fun o H' => ∃ v, o = .val v ∧ SL H' v xs ∧ Same (fun _ => False) H H' := by
  rw [c52, callB, bodyOf]
  obtain ⟨base, cap, rfl, ⟨rfl, rfl⟩ | ⟨r, off, own, tl, es, cs, rfl, h2⟩⟩ := id h
  · simp [Try.f52]
    exact ⟨⟨none, 0, rfl, .inl ⟨rfl, rfl⟩⟩, Same.refl _ _⟩
  · obtain ⟨v, H', e1, ⟨r, h3, h4⟩, h5⟩ := dup_run intT h hl
    simp [Try.f52, e1]
    exact ⟨h4.sl, h5⟩
theorem p_run {H : Heap} {p : Nat} {r : Option Nat} {s : Sm} {k : Nat} (h : IsP H p r s) (hk : s.ok k) (hk2 : k ≤ 1000) (pid : Int) :
    Gives (W.call 30 [ptr p, iv pid] H) fun o H' => o = .val (.bool (s.p pid).1) ∧ ∃ r', IsP H' p r' (s.p pid).2 ∧ Same (fun i => i = p ∨ r = some i) H H' ∧ Newer H r r' := by
  obtain ⟨⟨v, h1, h2⟩, h3⟩ := h
  obtain ⟨k1, k2, k3, k4, k5, k6, k7⟩ := hk
  have hp := Heap.lt_of_get h1 (by simp)
  rw [c30, callB, bodyOf]
  unfold Sm.p
  by_cases c1 : pid < 1
  · simp [Try.f30, c1]
    exact ⟨r, ⟨⟨v, h1, h2⟩, h3⟩, Same.refl _ _, Newer.refl _ _⟩
  by_cases c2 : 0 < s.value
  · simp [Try.f30, c1, c2, c55, callB, bodyOf, Try.f55, h65, h1, c56, Try.f56, h66, Heap.get_set _ _ _ hp, wrap64 (s.value + -1) (by omega) (by omega), wrap64 (s.ps + 1) (by omega) (by omega)]
    refine ⟨r, ⟨⟨v, by rw [Heap.get_set_self _ _ hp]; simp; omega, ?_⟩, h3⟩, Same.set H hp (.inl rfl) _, Newer.refl _ _⟩
    exact h2.same (Same.set (X := (· = p)) H hp rfl _) (fun i hi e => h3 (by rw [hi, e]))
  · have f1 := Same.push (fun _ => False) H (.row true 0 1 [.int .i64 pid])
    have g1 := h2.same f1 (fun _ _ h => h)
    obtain ⟨v', r', H1, e1, g2, f2, f3⟩ := grow_run intT (x := .slice (some ⟨H.n, 0, none⟩) 1 1) (ys := [pid]) g1 ⟨_, _, rfl, .inr ⟨H.n, 0, true, 0, 1, _, rfl, by simp; rfl, by simp, by simp⟩⟩ (by simp; omega)
    have q1 : H1.get p = _ := f2.at (f1.at h1 (by simp) (fun h => h)) (by simp) h3
    have hp1 := Heap.lt_of_get q1 (by simp)
    obtain ⟨b', n', cp', rfl⟩ := g2.sl.slice
    simp [Try.f30, c1, c2, c55, callB, bodyOf, Try.f55, h65, h1, e1, q1]
    have hs : Same (fun i => i = p ∨ r = some i) H H1 := (f1.mono (by simp)).trans (f2.mono (fun i h => .inr h))
    have f4 := f3.le f1.n
    exact ⟨r', ⟨⟨.slice b' n' cp', by rw [Heap.get_set_self _ _ hp1]; simp, g2.same (Same.set (X := (· = p)) H1 hp1 rfl _) (f4.ne hp h3)⟩, fun e => f4.ne hp h3 p e rfl⟩, hs.trans (Same.set H1 hp1 (.inl rfl) _), f4⟩

theorem v_run {H : Heap} {p : Nat} {r : Option Nat} {s : Sm} {k : Nat} (h : IsP H p r s) (hk : s.ok k) (hk2 : k ≤ 1000) :
    Gives (W.call 32 [ptr p] H) fun o H' => o = .val (iv s.v.1) ∧ ∃ r', IsP H' p r' s.v.2 ∧ Same (fun i => i = p ∨ r = some i) H H' ∧ Newer H r r' := by
  obtain ⟨⟨v, h1, h2⟩, h3⟩ := h
  obtain ⟨k1, k2, k3, k4, k5, k6, k7⟩ := hk
  have hp := Heap.lt_of_get h1 (by simp)
  have hlen : exLen Try.prog [37] v (H.set p (.row true 0 1 [iv s.value, iv s.first, iv s.ps, iv (s.vs + 1), v])) = some (.int .i64 s.waits.length) := by
    obtain ⟨base, cap, rfl, _⟩ := h2.sl
    simp [exLen, Try.underlying37]
  simp only [iv_eq] at hlen
  rw [c32, callB, bodyOf]
  unfold Sm.v
  cases hw : s.waits with
  | nil =>
    rw [hw] at hlen h2
    simp [Try.f32, h1, Heap.get_set _ _ _ hp, wrap64 (s.vs + 1) (by omega) (by omega), wrap64 (s.value + 1) (by omega) (by omega), hlen, c56, callB, bodyOf, Try.f56, h66]
    refine ⟨r, ⟨⟨v, by rw [Heap.get_set_self _ _ hp]; simp, ?_⟩, h3⟩, Same.set H hp (.inl rfl) _, Newer.refl _ _⟩
    exact h2.same (Same.set (X := (· = p)) H hp rfl _) (fun i hi e => h3 (by rw [hi, e]))
  | cons x xs =>
    rw [hw] at hlen h2 k7
    have f1 := Same.set (X := (· = p)) H hp rfl (.row true 0 1 [iv s.value, iv s.first, iv s.ps, iv (s.vs + 1), v])
    have g1 := h2.same f1 (fun i hi e => h3 (by rw [hi, e]))
    obtain ⟨v', r', H1, e1, g2, f2, f3, f4⟩ := tail_run intT g1
    have q1 : H1.get p = _ := f2.at (Heap.get_set_self _ _ hp) (by simp) h3
    have hp1 := Heap.lt_of_get q1 (by simp)
    obtain ⟨id, off, cs, tl, rfl, rfl, h6, h9⟩ := h2.cons
    have hpr : ¬ id = p := fun e => h3 (by rw [e])
    simp only [iv_eq] at e1 q1 h9
    obtain ⟨b', n', cp', rfl⟩ := g2.sl.slice
    simp [Try.f32, h1, Heap.get_set _ _ _ hp, Heap.get_set _ _ _ hp1, wrap64 (s.vs + 1) (by omega) (by omega), hlen, e1, h6, h9, hpr, q1, wrap64 (s.ps + 1) (by omega) (by omega), show ¬ ((xs.length : Int) + 1 = 0) by omega]
    have hs : Same (fun i => i = p ∨ id = i) H H1 := (f1.mono (fun i h => .inl h)).trans (f2.mono (fun i h => .inr (by simpa using h)))
    have f4 := f3.le f1.n
    exact ⟨r', ⟨⟨.slice b' n' cp', by rw [Heap.get_set_self _ _ hp1]; simp, g2.same (Same.set (X := (· = p)) H1 hp1 rfl _) (f4.ne hp h3)⟩, fun e => f4.ne hp h3 p e rfl⟩, hs.trans (Same.set H1 hp1 (.inl rfl) _), f4⟩
theorem rp_run {H : Heap} {p : Nat} {r : Option Nat} {s : Sm} {k : Nat} (h : IsR H p r s) (hk : s.ok k) (hk2 : k ≤ 1000) (pid : Int) :
    Gives (W.call 31 [ptr p, iv pid] H) fun o H' => o = .val (.bool (s.p pid).1) ∧ ∃ r', IsR H' p r' (s.p pid).2 ∧ Same (fun i => i = p ∨ r = some i) H H' ∧ Newer H r r' := by
  obtain ⟨⟨v, h1, h2⟩, h3⟩ := h
  obtain ⟨k1, k2, k3, k4, k5, k6, k7⟩ := hk
  have hp := Heap.lt_of_get h1 (by simp)
  rw [c31, callB, bodyOf]
  unfold Sm.p
  by_cases c1 : pid < 1
  · simp [Try.f31, c1]
    exact ⟨r, ⟨⟨v, h1, h2⟩, h3⟩, Same.refl _ _, Newer.refl _ _⟩
  by_cases c2 : 0 < s.value
  · simp [Try.f31, c1, c2, h1, Heap.get_set _ _ _ hp, wrap64 (s.value - 1) (by omega) (by omega), wrap64 (s.ps + 1) (by omega) (by omega)]
    refine ⟨r, ⟨⟨v, by rw [Heap.get_set_self _ _ hp]; simp, ?_⟩, h3⟩, Same.set H hp (.inl rfl) _, Newer.refl _ _⟩
    exact h2.same (Same.set (X := (· = p)) H hp rfl _) (fun i hi e => h3 (by rw [hi, e]))
  · obtain ⟨o, H0, e0, vc, rc, rfl, hrc, g0, f0⟩ := copy57 h2.sl (by omega)
    have f1 := Same.push (fun _ => False) H0 (.row true 0 1 [.int .i64 pid])
    have g1 := g0.same f1 (fun _ _ h => h)
    obtain ⟨v', r', H1, e1, g2, f2, f3⟩ := grow_run intT (x := .slice (some ⟨H0.n, 0, none⟩) 1 1) (ys := [pid]) g1 ⟨_, _, rfl, .inr ⟨H0.n, 0, true, 0, 1, _, rfl, by simp; rfl, by simp, by simp⟩⟩ (by simp; omega)
    have hn0 := f0.n
    have hrp : ¬ some rc = some p := by simp; omega
    have q1 : H1.get p = _ := f2.at (f1.at (f0.at h1 (by simp) (fun h => h)) (by simp) (fun h => h)) (by simp) hrp
    have hp1 := Heap.lt_of_get q1 (by simp)
    obtain ⟨b', n', cp', rfl⟩ := g2.sl.slice
    simp [Try.f31, c1, c2, h1, e0, e1, q1]
    have hs : Same (fun i => i = p ∨ r = some i) H H1 := by
      refine ⟨Nat.le_trans (Nat.le_trans f0.n f1.n) f2.n, fun i hi _ => ?_⟩
      rw [f2.get i (Nat.lt_of_lt_of_le hi (Nat.le_trans f0.n f1.n)) (by simp; omega), f1.get i (Nat.lt_of_lt_of_le hi f0.n) (fun h => h), f0.get i hi (fun h => h)]
    have f4 : Newer H r r' := (Newer.new (r := r) hrc).trans f3 (Nat.le_trans f0.n f1.n)
    exact ⟨r', ⟨⟨.slice b' n' cp', by rw [Heap.get_set_self _ _ hp1]; simp, g2.same (Same.set (X := (· = p)) H1 hp1 rfl _) (f4.ne hp h3)⟩, fun e => f4.ne hp h3 p e rfl⟩, hs.trans (Same.set H1 hp1 (.inl rfl) _), f4⟩
theorem rv_run {H : Heap} {p : Nat} {r : Option Nat} {s : Sm} {k : Nat} (h : IsR H p r s) (hk : s.ok k) (hk2 : k ≤ 1000) :
    Gives (W.call 33 [ptr p] H) fun o H' => o = .val (iv s.v.1) ∧ ∃ r', IsR H' p r' s.v.2 ∧ Same (fun i => i = p ∨ r = some i) H H' ∧ Newer H r r' := by
  obtain ⟨⟨v, h1, h2⟩, h3⟩ := h
  obtain ⟨k1, k2, k3, k4, k5, k6, k7⟩ := hk
  have hp := Heap.lt_of_get h1 (by simp)
  have hlen : exLen Try.prog [37] v (H.set p (.row true 0 1 [iv s.first, iv s.value, iv s.ps, iv (s.vs + 1), v])) = some (.int .i64 s.waits.length) := by
    obtain ⟨base, cap, rfl, _⟩ := h2.sl
    simp [exLen, Try.underlying37]
  simp only [iv_eq] at hlen
  rw [c33, callB, bodyOf]
  unfold Sm.v
  cases hw : s.waits with
  | nil =>
    rw [hw] at hlen h2
    simp [Try.f33, h1, Heap.get_set _ _ _ hp, wrap64 (s.vs + 1) (by omega) (by omega), wrap64 (s.value + 1) (by omega) (by omega), hlen]
    refine ⟨r, ⟨⟨v, by rw [Heap.get_set_self _ _ hp]; simp, ?_⟩, h3⟩, Same.set H hp (.inl rfl) _, Newer.refl _ _⟩
    exact h2.same (Same.set (X := (· = p)) H hp rfl _) (fun i hi e => h3 (by rw [hi, e]))
  | cons x xs =>
    rw [hw] at hlen h2 k7
    have f1 := Same.set (X := (· = p)) H hp rfl (.row true 0 1 [iv s.first, iv s.value, iv s.ps, iv (s.vs + 1), v])
    have g1 := h2.same f1 (fun i hi e => h3 (by rw [hi, e]))
    obtain ⟨v', r', H1, e1, g2, f2, f3, f4⟩ := tail_run intT g1
    simp at k7
    obtain ⟨o, H2, e2, vc, rc, rfl, hrc, g3, f5⟩ := copy57 g2.sl (by omega)
    have q1 : H1.get p = _ := f2.at (Heap.get_set_self _ _ hp) (by simp) h3
    have hp1 := Heap.lt_of_get q1 (by simp)
    have q2 : H2.get p = _ := f5.at q1 (by simp) (fun h => h)
    have hp2 := Heap.lt_of_get q2 (by simp)
    obtain ⟨id, off, cs, tl, rfl, rfl, h6, h9⟩ := h2.cons
    have hpr : ¬ id = p := fun e => h3 (by rw [e])
    simp only [iv_eq] at e1 q1 q2 h9
    obtain ⟨b', n', cp', rfl⟩ := g3.sl.slice
    simp [Try.f33, h1, Heap.get_set _ _ _ hp, Heap.get_set _ _ _ hp2, wrap64 (s.vs + 1) (by omega) (by omega), hlen, e1, e2, h6, h9, hpr, q1, q2, wrap64 (s.ps + 1) (by omega) (by omega), show ¬ ((xs.length : Int) + 1 = 0) by omega]
    have hs : Same (fun i => i = p ∨ id = i) H H2 := ((f1.mono (fun i h => .inl h)).trans (f2.mono (fun i h => .inr (by simpa using h)))).trans (f5.mono (by simp))
    have f6 : Newer H (some id) (some rc) := Newer.new (Nat.le_trans (Nat.le_trans f1.n f2.n) hrc)
    exact ⟨some rc, ⟨⟨.slice b' n' cp', by rw [Heap.get_set_self _ _ hp2]; simp, g3.same (Same.set (X := (· = p)) H2 hp2 rfl _) (f6.ne hp h3)⟩, fun e => f6.ne hp h3 p e rfl⟩, hs.trans (Same.set H2 hp2 (.inl rfl) _), f6⟩
end Go.Vm.SemaLaw
