/- What is proved: what the functions of package region and of its reference hand back, and what they turn. -/
import Derived.Test.YtifbhohifhnkiaaVmTab
import Derived.Test.YtifbhohifhnkiaaGL
namespace Go.Vm.RegionLaw
open Go Go.Proofs
set_option maxRecDepth 100000
set_option linter.unusedSimpArgs false
attribute [local simp] repCells_succ writeAt rd_Fr
theorem mixed : Try.prog.follows .mixedOrders = true := by kernel_rfl
theorem awake_runs : isTrueOut ((runs Try.prog noHooks 80).call 39 [] Heap.empty) = true := by decide +kernel
/-- 'awake' is summed up. -/
def E1 : Hooks := pureHooks fun f args => match f, args with | 39, [] => some (.bool true) | _, _ => none
noncomputable abbrev W : Runs := run Try.prog E1
theorem E1_ok (N : Nat) (W0 : World) : CallOK Try.prog N W0 E1.run := by
  refine pureHooks_ok mixed (E := noHooks) (fun _ _ => noHooks_ok) ?_ N W0
  intro f args v h _ _
  split at h
  · simp only [Option.some.injEq] at h
    subst h
    obtain ⟨H', h⟩ := isTrueOut_some awake_runs
    exact ⟨H', run_of_runs h⟩
  · cases h
theorem awake_true (H : Heap) : W.call 39 [] H = some (.val (.bool true), H) := by
  rw [run_call]; rfl
theorem intT : IntT Try.prog 37 3 := ⟨elem37, size3, bytes3, zero3, Try.underlying37⟩
theorem c11 (args : List Value) (H : Heap) : W.call 11 args H = callB Try.prog E1 Try.f11 args H := call_B Try.func11 rfl (by decide +kernel) rfl args H
theorem c12 (args : List Value) (H : Heap) : W.call 12 args H = callB Try.prog E1 Try.f12 args H := call_B Try.func12 rfl (by decide +kernel) rfl args H
theorem c13 (args : List Value) (H : Heap) : W.call 13 args H = callB Try.prog E1 Try.f13 args H := call_B Try.func13 rfl (by decide +kernel) rfl args H
theorem c14 (args : List Value) (H : Heap) : W.call 14 args H = callB Try.prog E1 Try.f14 args H := call_B Try.func14 rfl (by decide +kernel) rfl args H
theorem c25 (args : List Value) (H : Heap) : W.call 25 args H = callB Try.prog E1 Try.f25 args H := call_B Try.func25 rfl (by decide +kernel) rfl args H
theorem c40 (args : List Value) (H : Heap) : W.call 40 args H = callB Try.prog E1 Try.f40 args H := call_B Try.func40 rfl (by decide +kernel) rfl args H
theorem c41 (args : List Value) (H : Heap) : W.call 41 args H = callB Try.prog E1 Try.f41 args H := call_B Try.func41 rfl (by decide +kernel) rfl args H
theorem c42 (args : List Value) (H : Heap) : W.call 42 args H = callB Try.prog E1 Try.f42 args H := call_B Try.func42 rfl (by decide +kernel) rfl args H
theorem c43 (args : List Value) (H : Heap) : W.call 43 args H = callB Try.prog E1 Try.f43 args H := call_B Try.func43 rfl (by decide +kernel) rfl args H
theorem c44 (args : List Value) (H : Heap) : W.call 44 args H = callB Try.prog E1 Try.f44 args H := call_B Try.func44 rfl (by decide +kernel) rfl args H
theorem c45 (args : List Value) (H : Heap) : W.call 45 args H = callB Try.prog E1 Try.f45 args H := call_B Try.func45 rfl (by decide +kernel) rfl args H
theorem c46 (args : List Value) (H : Heap) : W.call 46 args H = callB Try.prog E1 Try.f46 args H := call_B Try.func46 rfl (by decide +kernel) rfl args H
theorem c47 (args : List Value) (H : Heap) : W.call 47 args H = callB Try.prog E1 Try.f47 args H := call_B Try.func47 rfl (by decide +kernel) rfl args H
theorem c48 (args : List Value) (H : Heap) : W.call 48 args H = callB Try.prog E1 Try.f48 args H := call_B Try.func48 rfl (by decide +kernel) rfl args H
theorem c49 (args : List Value) (H : Heap) : W.call 49 args H = callB Try.prog E1 Try.f49 args H := call_B Try.func49 rfl (by decide +kernel) rfl args H
theorem c50 (args : List Value) (H : Heap) : W.call 50 args H = callB Try.prog E1 Try.f50 args H := call_B Try.func50 rfl (by decide +kernel) rfl args H
theorem c51 (args : List Value) (H : Heap) : W.call 51 args H = callB Try.prog E1 Try.f51 args H := call_B Try.func51 rfl (by decide +kernel) rfl args H
theorem c52 (args : List Value) (H : Heap) : W.call 52 args H = callB Try.prog E1 Try.f52 args H := call_B Try.func52 rfl (by decide +kernel) rfl args H
theorem c57 (args : List Value) (H : Heap) : W.call 57 args H = callB Try.prog E1 Try.f57 args H := call_B Try.func57 rfl (by decide +kernel) rfl args H
theorem c58 (args : List Value) (H : Heap) : W.call 58 args H = callB Try.prog E1 Try.f58 args H := call_B Try.func58 rfl (by decide +kernel) rfl args H
theorem c59 (args : List Value) (H : Heap) : W.call 59 args H = callB Try.prog E1 Try.f59 args H := call_B Try.func59 rfl (by decide +kernel) rfl args H
theorem c60 (args : List Value) (H : Heap) : W.call 60 args H = callB Try.prog E1 Try.f60 args H := call_B Try.func60 rfl (by decide +kernel) rfl args H
theorem c61 (args : List Value) (H : Heap) : W.call 61 args H = callB Try.prog E1 Try.f61 args H := call_B Try.func61 rfl (by decide +kernel) rfl args H
theorem c62 (args : List Value) (H : Heap) : W.call 62 args H = callB Try.prog E1 Try.f62 args H := call_B Try.func62 rfl (by decide +kernel) rfl args H
theorem c63 (args : List Value) (H : Heap) : W.call 63 args H = callB Try.prog E1 Try.f63 args H := call_B Try.func63 rfl (by decide +kernel) rfl args H
theorem c67 (args : List Value) (H : Heap) : W.call 67 args H = callB Try.prog E1 Try.f67 args H := call_B Try.func67 rfl (by decide +kernel) rfl args H
theorem c68 (args : List Value) (H : Heap) : W.call 68 args H = callB Try.prog E1 Try.f68 args H := call_B Try.func68 rfl (by decide +kernel) rfl args H
/-- The slices' functions that copy. -/
theorem copy57 {H : Heap} {x : Value} {xs : List Int} (h : SL H x xs) (hl : xs.length ≤ 1000000) :
    Gives (W.call 57 [x] H) fun o H' => ∃ v r, o = .val v ∧ H.n ≤ r ∧ GL H' v xs (some r) ∧ Same (fun _ => False) H H' := by
  obtain ⟨v, H', e1, ⟨r, h1, h2⟩, h3⟩ := dup_run intT h hl
  rw [c57, callB, bodyOf]
  simp [Try.f57, e1]
  exact ⟨r, h1, h2, h3⟩
theorem clone52 {H : Heap} {x : Value} {xs : List Int} (h : SL H x xs) (hl : xs.length ≤ 1000000) :
    Gives (W.call 52 [x] H) fun o H' => ∃ v, o = .val v ∧ SL H' v xs ∧ Same (fun _ => False) H H' := by
  rw [c52, callB, bodyOf]
  obtain ⟨base, cap, rfl, ⟨rfl, rfl⟩ | ⟨r, off, own, tl, es, cs, rfl, h2⟩⟩ := id h
  · simp [Try.f52]
    exact ⟨⟨none, 0, rfl, .inl ⟨rfl, rfl⟩⟩, Same.refl _ _⟩
  · obtain ⟨v, H', e1, ⟨r, h3, h4⟩, h5⟩ := dup_run intT h hl
    simp [Try.f52, e1]
    exact ⟨h4.sl, h5⟩

/-- Who is in it; who wants to come in; who waits for its condition. -/
structure Rg where
  inn : Int
  entry : List Int
  waits : List Int
/-- A region, the program's or the reference's: its place, its lists' rows. -/
structure IsG (H : Heap) (p : Nat) (r1 r2 : Option Nat) (s : Rg) : Prop where
  lst : ∃ v1 v2, H.get p = .row true 0 1 [iv s.inn, v1, v2] ∧ GL H v1 s.entry r1 ∧ GL H v2 s.waits r2
  n1 : r1 ≠ some p
  n2 : r2 ≠ some p
  n12 : ∀ i, r1 = some i → r2 ≠ some i
/-- What a call may turn of it. -/
def Ft (p : Nat) (r1 r2 : Option Nat) (i : Nat) : Prop := i = p ∨ r1 = some i ∨ r2 = some i
theorem IsG.same {X : Nat → Prop} {H H' : Heap} {p : Nat} {r1 r2 : Option Nat} {s : Rg} (h : IsG H p r1 r2 s) (k : Same X H H') (hx : ∀ i, Ft p r1 r2 i → ¬ X i) : IsG H' p r1 r2 s := by
  obtain ⟨⟨v1, v2, h1, h2, h3⟩, a, b, c⟩ := h
  exact ⟨⟨v1, v2, k.at h1 (by simp) (hx p (.inl rfl)), h2.same k (fun i hi => hx i (.inr (.inl hi))), h3.same k (fun i hi => hx i (.inr (.inr hi)))⟩, a, b, c⟩
theorem IsG.lt {H : Heap} {p : Nat} {r1 r2 : Option Nat} {s : Rg} (h : IsG H p r1 r2 s) : ∀ i, Ft p r1 r2 i → i < H.n := by
  obtain ⟨⟨v1, v2, h1, h2, h3⟩, a, b, c⟩ := h
  rintro i (rfl | hi | hi)
  · exact Heap.lt_of_get h1 (by simp)
  · exact h2.lt hi
  · exact h3.lt hi
def ptr (p : Nat) : Value := .pointer (some ⟨p, 0, none⟩)
@[simp] theorem ptr_eq (p : Nat) : ptr p = .pointer (some ⟨p, 0, none⟩) := id rfl
/-- What a call leaves: the new state, the rest as it was. -/
def Left (H H' : Heap) (p : Nat) (r1 r2 : Option Nat) (s' : Rg) : Prop :=
  ∃ r1' r2', IsG H' p r1' r2' s' ∧ Same (Ft p r1 r2) H H' ∧ (∀ i, Ft p r1' r2' i → Ft p r1 r2 i ∨ H.n ≤ i)
theorem Left.refl {H : Heap} {p : Nat} {r1 r2 : Option Nat} {s : Rg} (h : IsG H p r1 r2 s) : Left H H p r1 r2 s := ⟨r1, r2, h, Same.refl _ _, fun _ h => .inl h⟩
theorem Left.trans {H H1 H2 : Heap} {p : Nat} {r1 r2 r1' r2' : Option Nat} {s' : Rg} (f : Same (Ft p r1 r2) H H1) (n : ∀ i, Ft p r1' r2' i → Ft p r1 r2 i ∨ H.n ≤ i) (h : Left H1 H2 p r1' r2' s') : Left H H2 p r1 r2 s' := by
  obtain ⟨a, b, h1, h2, h3⟩ := h
  refine ⟨a, b, h1, ⟨Nat.le_trans f.n h2.n, fun i hi hx => ?_⟩, fun i hi => (h3 i hi).elim (n i) (fun k => .inr (Nat.le_trans f.n k))⟩
  rw [h2.get i (Nat.lt_of_lt_of_le hi f.n) (fun k => (n i k).elim hx (fun k => by omega)), f.get i hi hx]

def Rg.next (s : Rg) : Int × Rg := match s.entry with
  | [] => (0, { s with inn := 0 })
  | x :: xs => (x, { s with inn := x, entry := xs })
def Rg.enter (s : Rg) (pid : Int) : Bool × Rg :=
  if pid < 1 then (false, s) else if s.inn = 0 then (true, { s with inn := pid }) else (false, { s with entry := s.entry ++ [pid] })
def Rg.is (s : Rg) (pid : Int) : Bool := decide (0 < pid ∧ s.inn = pid)
def Rg.fail (s : Rg) (pid : Int) : Int × Bool × Rg :=
  if s.is pid = true then ((Rg.next { s with waits := s.waits ++ [pid] }).1, true, (Rg.next { s with waits := s.waits ++ [pid] }).2) else (0, false, s)
def Rg.leave (s : Rg) (pid : Int) : Int × Bool × Rg :=
  if s.is pid = true then ((Rg.next { s with entry := s.waits ++ s.entry, waits := [] }).1, true, (Rg.next { s with entry := s.waits ++ s.entry, waits := [] }).2) else (0, false, s)
def Rg.size (s : Rg) : Nat := s.entry.length + s.waits.length

/-- Something put behind a queue: its list at place o of the region. -/
theorem put_run {H : Heap} {p o : Nat} {a b : List Value} {v : Value} {xs : List Int} {r : Option Nat} (h : H.get p = .row true 0 1 (a ++ v :: b)) (ho : a.length = o) (g : GL H v xs r) (hr : r ≠ some p) {x : Value} {ys : List Int} (hx : SL H x ys) (hl : xs.length + ys.length ≤ 1000000) :
    ∃ v' r' H1, W.call 58 [.pointer (some ⟨p, o, none⟩), x] H = some (.val (.tuple #[]), H1.set p (.row true 0 1 (a ++ v' :: b))) ∧ H1.get p = .row true 0 1 (a ++ v :: b) ∧ GL H1 v' (xs ++ ys) r' ∧ Same (fun i => r = some i) H H1 ∧ Newer H r r' ∧ p < H1.n := by
  obtain ⟨v', r', H1, e1, g2, f2, f3⟩ := grow_run intT g hx hl
  have q1 : H1.get p = _ := f2.at h (by simp) hr
  have hp1 := Heap.lt_of_get q1 (by simp)
  refine ⟨v', r', H1, ?_, q1, g2, f2, f3, hp1⟩
  have ha : (a ++ v :: b)[o]? = some v := by rw [← ho]; simp
  have hw : List.take o (a ++ v :: b) ++ v' :: List.drop (o + 1) (a ++ v :: b) = a ++ v' :: b := by
    subst ho
    simp
  have hlen : o + 1 ≤ a.length + (b.length + 1) := by omega
  rw [c58, callB, bodyOf]
  obtain ⟨b', n', cp', rfl⟩ := g2.sl.slice
  simp [Try.f58, h, ha, e1, q1, hlen, hw]

theorem plan67 : planOf Try.prog (drawN Try.f67 0) = some [some (0, 1), some (0, 1), some (0, 1), some (0, 1), some (0, 1), some (0, 1), some (0, 1), none, none, none, none, none, some (0, 1), none, none, none] := by decide +kernel
/-- The first of a queue. -/
theorem take_run {H : Heap} {p o : Nat} {a b : List Value} {v : Value} {xs : List Int} {r : Option Nat} (h : H.get p = .row true 0 1 (a ++ v :: b)) (ho : a.length = o) (g : GL H v xs r) (hr : r ≠ some p) (hl : xs.length ≤ 1000000) :
    ∃ v' r' H1, W.call 67 [.pointer (some ⟨p, o, none⟩)] H = some (.val (.tuple #[iv (xs.headD 0), .bool (decide (xs ≠ []))]), H1) ∧ H1.get p = .row true 0 1 (a ++ v' :: b) ∧ GL H1 v' xs.tail r' ∧ Same (fun i => i = p ∨ r = some i) H H1 ∧ Newer H r r' := by
  have ha : (a ++ v :: b)[o]? = some v := by rw [← ho]; simp
  have hp := Heap.lt_of_get h (by simp)
  have hlen : exLen Try.prog [37] v H = some (.int .i64 xs.length) := by
    obtain ⟨base, cap, rfl, _⟩ := g.sl
    simp [exLen, Try.underlying37]
  cases xs with
  | nil =>
    refine ⟨v, r, H, ?_, h, g, Same.refl _ _, Newer.refl _ _⟩
    rw [c67, callB, bodyOf]
    simp at hlen
    simp [Try.f67, h, ha, hlen]
  | cons x xs =>
    obtain ⟨v', r', H1, e1, g2, f2, f3, f4⟩ := tail_run intT g
    obtain ⟨id, off, cs, tl, rfl, rfl, h6, h9⟩ := g.cons
    have q1 : H1.get p = _ := f2.at h (by simp) hr
    have hp1 := Heap.lt_of_get q1 (by simp)
    have f5 := f4 id rfl
    rw [h6] at f5
    have hw : List.take o (a ++ Value.slice (some ⟨id, off, none⟩) (xs.length + 1) (xs.length + 1) :: b) ++ v' :: List.drop (o + 1) (a ++ Value.slice (some ⟨id, off, none⟩) (xs.length + 1) (xs.length + 1) :: b) = a ++ v' :: b := by
      subst ho
      simp
    have hlen2 : o + 1 ≤ a.length + (b.length + 1) := by omega
    obtain ⟨b', n', cp', rfl⟩ := g2.sl.slice
    have key : Gives (W.call 67 [.pointer (some ⟨p, o, none⟩)] H) fun o' H' => o' = .val (.tuple #[iv x, .bool true]) ∧ H' = H1.set p (.row true 0 1 (a ++ .slice b' n' cp' :: b)) := by
      rw [c67, callB, bodyOf]
      simp only [iv_eq, rowCells_row] at h9 f5
      simp at hlen
      simp [Try.f67, h, ha, hlen, show ¬ ((xs.length : Int) + 1 = 0) by omega]
      refine region_plan (by exact plan67) ?_
      simp [h, ha, h6, h9, e1, f5, q1, hlen2, hw]
    obtain ⟨o', H', e2, rfl, rfl⟩ := key
    refine ⟨.slice b' n' cp', r', _, by simpa using e2, Heap.get_set_self _ _ hp1, ?_, (f2.mono fun i h => .inr h).trans (Same.set H1 hp1 (.inl rfl) _), f3⟩
    exact g2.same (Same.set (X := (· = p)) H1 hp1 rfl _) (f3.ne hp hr)

/-- All lists of a slice of two slices, one behind the other. -/
theorem concat_run {H : Heap} {a : Nat} {v1 v2 : Value} {xs ys : List Int} (h : H.get a = .row true 0 1 [v1, v2]) (h1 : SL H v1 xs) (h2 : SL H v2 ys) (hl : xs.length + ys.length ≤ 1000000) :
    ∃ v r H', W.call 62 [.slice (some ⟨a, 0, none⟩) 2 2] H = some (.val v, H') ∧ GL H' v (xs ++ ys) r ∧ (∀ i, r = some i → H.n ≤ i) ∧ Same (fun _ => False) H H' := by
  have l1 : ∀ H', exLen Try.prog [37] v1 H' = some (.int .i64 xs.length) := by
    obtain ⟨base, cap, rfl, _⟩ := h1
    intro H'; simp [exLen, Try.underlying37]
  have l2 : ∀ H', exLen Try.prog [37] v2 H' = some (.int .i64 ys.length) := by
    obtain ⟨base, cap, rfl, _⟩ := h2
    intro H'; simp [exLen, Try.underlying37]
  by_cases h0 : xs.length + ys.length = 0
  · obtain ⟨rfl, rfl⟩ : xs = [] ∧ ys = [] := ⟨List.eq_nil_of_length_eq_zero (by omega), List.eq_nil_of_length_eq_zero (by omega)⟩
    obtain ⟨b1, c1, rfl, _⟩ := id h1
    obtain ⟨b2, c2, rfl, _⟩ := id h2
    have e1 : ∀ b c, (SL H (.slice b 0 c) []) → exAppend Try.prog [37, 37] (.slice none 0 0) (.slice b 0 c) H = some (.slice none 0 0, H) := by
      intro b c hs
      have := hs.cells
      simp only [List.length_nil] at this
      simp [exAppend, intT.elem, intT.size, intT.bytes, intT.zero, intT.under, this]
    have e2 := e1 _ _ h1
    have e3 := e1 _ _ h2
    have key : Gives (W.call 62 [.slice (some ⟨a, 0, none⟩) 2 2] H) fun o H' => o = .val (.slice none 0 0) ∧ H' = H := by
      rw [c62, callB, bodyOf]
      simp at l1 l2
      simp [Try.f62, code_loop, h, l1, l2, e2, e3, c68, callB, bodyOf, Try.f68, exCap, Try.underlying37, wrap64 0 (by omega) (by omega), wrap64 1 (by omega) (by omega), wrap64 2 (by omega) (by omega)]
    obtain ⟨o, H', e, rfl, rfl⟩ := key
    exact ⟨_, none, _, e, .inl ⟨rfl, rfl, rfl⟩, (fun i hi => by cases hi), Same.refl _ _⟩
  · have hh : H.n < (H.push (.row true 1 1 (List.replicate (xs.length + ys.length) (.int .i64 0)))).n := by simp
    have f0 := Same.push (fun _ => False) H (.row true 1 1 (List.replicate (xs.length + ys.length) (.int .i64 0)))
    obtain ⟨H1, cs1, e1, g1, n1, t1, f1⟩ := room_run intT (r := H.n) (k := 0) (n := xs.length + ys.length) (tl := 1) (Heap.get_push_self H _) (by simp) (h1.same f0.all) (by omega) hl
    have q2 : SL H1 v2 ys := by
      refine h2.same ?_
      intro i o hi ho
      have := Heap.lt_of_get hi ho
      rw [f1.get i (by simp; omega) (by omega), Heap.get_push_lt _ _ this]
      exact hi
    obtain ⟨H2, cs2, e2, g2, n2, t2, f2⟩ := room_run intT (r := H.n) (k := xs.length) g1 n1 q2 (Nat.le_refl _) hl
    have ha : a < H.n := Heap.lt_of_get h (by simp)
    have ha1 : H1.get a = .row true 0 1 [v1, v2] := f1.at (f0.at h (by simp) (fun h => h)) (by simp) (by omega)
    have key : Gives (W.call 62 [.slice (some ⟨a, 0, none⟩) 2 2] H) fun o H' => o = .val (.slice (some ⟨H.n, 0, none⟩) (xs.length + ys.length) (xs.length + ys.length)) ∧ H' = H2 := by
      rw [c62, callB, bodyOf]
      simp at e1
      have e0 : exAppend Try.prog [37, 3] (.slice none 0 0) (.int .i64 ((xs.length : Int) + ys.length)) H = some (.slice (some ⟨H.n, 0, none⟩) (xs.length + ys.length) (xs.length + ys.length), H.push (.row true 1 1 (List.replicate (xs.length + ys.length) (.int .i64 0)))) := by
        simp [exAppend, exAppendMake, Try.underlying3, show 0 ≤ (xs.length : Int) + ys.length by omega, show (xs.length : Int) + ys.length ≤ 1000000 by omega, show ¬ ((xs.length : Int) + ys.length = 0) by omega, show ((xs.length : Int) + ys.length).toNat = xs.length + ys.length by omega, repCells_one]
      have e3 : exSlice Try.prog 37 (.slice none 0 0) none (some (.int .i64 0)) none H = some (.slice none 0 0, H) := by simp [exSlice, Try.underlying37]
      simp [Try.f62, code_loop, h, l1, l2, e0, e1, e2, e3, ha1, Nat.ne_of_lt ha, Heap.get_push_lt _ _ ha, c68, callB, bodyOf, Try.f68, exCap, Try.underlying37, wrap64 0 (by omega) (by omega), wrap64 1 (by omega) (by omega), wrap64 2 (by omega) (by omega), wrap64 (xs.length : Int) (by omega) (by omega), wrap64 ((xs.length : Int) + ys.length) (by omega) (by omega),
        show ¬ (xs.length : Int) < 0 by omega, show ¬ (xs.length : Int) + ys.length < 0 by omega, show 0 < (xs.length : Int) + ys.length by omega, show 0 ≤ (xs.length : Int) + ys.length by omega, cutA]
    obtain ⟨o, H', e, rfl, rfl⟩ := key
    refine ⟨_, some H.n, _, e, .inr ⟨H.n, 0, cs2, 1, rfl, by simp, g2, by simp; omega, ?_, .inr ⟨rfl, by simp; omega⟩⟩, fun i hi => by simp at hi; omega, ?_⟩
    · simp only [Nat.zero_add, List.take_zero, List.nil_append] at t1
      rw [List.drop_zero, List.length_append, t2, t1, List.map_append]
    · refine ⟨Nat.le_trans f0.n (Nat.le_trans f1.n f2.n), fun i hi _ => ?_⟩
      rw [f2.get i (Nat.lt_of_lt_of_le hi (Nat.le_trans f0.n f1.n)) (by omega), f1.get i (Nat.lt_of_lt_of_le hi f0.n) (by omega), f0.get i hi (fun h => h)]

/-- The next one comes in. -/
theorem next_run {H : Heap} {p : Nat} {r1 r2 : Option Nat} {s : Rg} (h : IsG H p r1 r2 s) (hl : s.size ≤ 1000) :
    Gives (W.call 60 [ptr p] H) fun o H' => o = .val (.tuple #[iv s.next.1, .bool true]) ∧ Left H H' p r1 r2 s.next.2 := by
  obtain ⟨⟨v1, v2, g1, g2, g3⟩, n1, n2, n12⟩ := id h
  unfold Rg.size at hl
  have hp := Heap.lt_of_get g1 (by simp)
  obtain ⟨v', r', H1, e1, q1, k1, f1, m1⟩ := take_run (a := [iv s.inn]) (b := [v2]) (o := 1) g1 rfl g2 n1 (by omega)
  have hp1 := Heap.lt_of_get q1 (by simp)
  simp only [iv_eq, List.singleton_append] at e1 q1
  rw [c60, callB, bodyOf]
  simp [Try.f60, g1, e1, q1, Heap.get_set _ _ _ hp1]
  have hx : s.next = (s.entry.headD 0, { s with inn := s.entry.headD 0, entry := s.entry.tail }) := by
    unfold Rg.next
    cases s.entry with
    | nil => rfl
    | cons x xs => rfl
  rw [hx]
  simp
  have hr2 : ∀ i, r2 = some i → ¬ (i = p ∨ r1 = some i) := fun i hi e => e.elim (fun e => n2 (by rw [hi, e])) (fun e => n12 i e hi)
  have f2 : Same (Ft p r1 r2) H1 (H1.set p (.row true 0 1 [.int .i64 (s.entry.headD 0), v', v2])) := Same.set H1 hp1 (.inl rfl) _
  refine ⟨r', r2, ⟨⟨v', v2, by rw [Heap.get_set_self _ _ hp1]; simp, k1.same (Same.set (X := (· = p)) H1 hp1 rfl _) (m1.ne hp n1), ?_⟩, fun e => m1.ne hp n1 p e rfl, n2, ?_⟩, (f1.mono ?_).trans (by simpa using f2), ?_⟩
  · exact (g3.same f1 hr2).same (Same.set (X := (· = p)) H1 hp1 rfl _) (fun i hi e => n2 (by rw [hi, e]))
  · intro i hi hj
    exact (m1 i hi).elim (fun k => n12 i k hj) (fun k => by have := g3.lt hj; omega)
  · exact fun i hi => hi.elim .inl (fun k => .inr (.inl k))
  · rintro i (rfl | hi | hi)
    · exact .inl (.inl rfl)
    · exact (m1 i hi).imp (fun k => .inr (.inl k)) id
    · exact .inl (.inr (.inr hi))

theorem occ_run {H : Heap} {p : Nat} {r1 r2 : Option Nat} {s : Rg} (h : IsG H p r1 r2 s) : W.call 47 [ptr p] H = some (.val (iv s.inn), H) := by
  obtain ⟨⟨v1, v2, g1, g2, g3⟩, n1, n2, n12⟩ := h
  rw [c47, callB, bodyOf]
  simp [Try.f47, g1]
theorem is_run {H : Heap} {p : Nat} {r1 r2 : Option Nat} {s : Rg} (h : IsG H p r1 r2 s) (pid : Int) : W.call 59 [ptr p, iv pid] H = some (.val (.bool (s.is pid)), H) := by
  have e := occ_run h
  simp only [ptr_eq, iv_eq] at e
  rw [c59, callB, bodyOf]
  unfold Rg.is
  by_cases c : 0 < pid
  · simp [Try.f59, c, e]
  · simp [Try.f59, c]
theorem enter_run {H : Heap} {p : Nat} {r1 r2 : Option Nat} {s : Rg} (h : IsG H p r1 r2 s) (hl : s.size ≤ 1000) (pid : Int) :
    Gives (W.call 41 [ptr p, iv pid] H) fun o H' => o = .val (.bool (s.enter pid).1) ∧ Left H H' p r1 r2 (s.enter pid).2 := by
  obtain ⟨⟨v1, v2, g1, g2, g3⟩, n1, n2, n12⟩ := id h
  unfold Rg.size at hl
  have hp := Heap.lt_of_get g1 (by simp)
  rw [c41, callB, bodyOf]
  unfold Rg.enter
  by_cases c1 : pid < 1
  · simp [Try.f41, c1]
    exact Left.refl h
  by_cases c2 : s.inn = 0
  · simp [Try.f41, c1, c2, g1]
    refine ⟨r1, r2, ⟨⟨v1, v2, by rw [Heap.get_set_self _ _ hp]; simp, g2.same (Same.set (X := (· = p)) H hp rfl _) (fun i hi e => n1 (by rw [hi, e])), g3.same (Same.set (X := (· = p)) H hp rfl _) (fun i hi e => n2 (by rw [hi, e]))⟩, n1, n2, n12⟩, Same.set H hp (.inl rfl) _, fun i hi => .inl hi⟩
  · have f0 := Same.push (fun _ => False) H (.row true 0 1 [.int .i64 pid])
    obtain ⟨v', r', H1, e1, q1, k1, f1, m1, hp1⟩ := put_run (a := [iv s.inn]) (b := [v2]) (o := 1) (x := .slice (some ⟨H.n, 0, none⟩) 1 1) (ys := [pid]) (f0.at g1 (by simp) (fun h => h)) rfl (g2.same f0 (fun _ _ h => h)) n1 ⟨_, _, rfl, .inr ⟨H.n, 0, true, 0, 1, _, rfl, by simp; rfl, by simp, by simp⟩⟩ (by simp; omega)
    simp only [iv_eq, List.singleton_append] at e1 q1
    simp [Try.f41, c1, c2, g1, e1]
    have m2 := m1.le f0.n
    have f2 := Same.set (X := (· = p)) H1 hp1 rfl (.row true 0 1 [.int .i64 s.inn, v', v2])
    refine ⟨r', r2, ⟨⟨v', v2, by rw [Heap.get_set_self _ _ hp1]; simp, k1.same f2 (m2.ne hp n1), ?_⟩, fun e => m2.ne hp n1 p e rfl, n2, ?_⟩, ((f0.mono (by simp)).trans (f1.mono (fun i h => .inr (.inl h)))).trans (f2.mono (fun i h => .inl h)), ?_⟩
    · exact (((g3.same f0 (fun _ _ h => h)).same f1 (fun i hi e => n12 i e hi))).same f2 (fun i hi e => n2 (by rw [hi, e]))
    · intro i hi hj
      exact (m2 i hi).elim (fun k => n12 i k hj) (fun k => by have := g3.lt hj; omega)
    · rintro i (rfl | hi | hi)
      · exact .inl (.inl rfl)
      · exact (m2 i hi).imp (fun k => .inr (.inl k)) id
      · exact .inl (.inr (.inr hi))
end Go.Vm.RegionLaw
