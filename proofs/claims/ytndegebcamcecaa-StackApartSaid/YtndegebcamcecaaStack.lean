/- What is proved: what the functions of package stack hand back, and what they turn. -/
import Derived.Test.YtndegebcamcecaaVmTab
import Derived.Test.YtndegebcamcecaaGL
namespace Go.Vm.StackLaw
open Go Go.Proofs
set_option maxRecDepth 100000
set_option linter.unusedSimpArgs false
attribute [local simp] repCells_succ writeAt rd_Fr
theorem mixed : Try.prog.follows .mixedOrders = true := by kernel_rfl
theorem awake_runs : isTrueOut ((runs Try.prog noHooks 120).call 7 [] Heap.empty) = true := by decide +kernel
/-- 'awake' is summed up. -/
def E1 : Hooks := pureHooks fun f args => match f, args with | 7, [] => some (.bool true) | _, _ => none
noncomputable abbrev W : Runs := run Try.prog E1
theorem E1_ok (N : Nat) (W0 : World) : CallOK Try.prog N W0 E1.run := by
  refine pureHooks_ok mixed (E := noHooks) (fun _ _ => noHooks_ok) ?_ N W0
  intro f args v h _ _
  split at h
  · simp only [Option.some.injEq] at h
    subst h
    obtain ⟨H', h⟩ := isTrueOut_some awake_runs
    exact ⟨H', run_of_runs h⟩
  · cases h
theorem awake_true (H : Heap) : W.call 7 [] H = some (.val (.bool true), H) := by
  rw [run_call]; rfl
theorem c3 (args : List Value) (H : Heap) : W.call 3 args H = callB Try.prog E1 Try.f3 args H := call_B Try.func3 rfl (by decide +kernel) rfl args H
theorem c4 (args : List Value) (H : Heap) : W.call 4 args H = callB Try.prog E1 Try.f4 args H := call_B Try.func4 rfl (by decide +kernel) rfl args H
theorem c5 (args : List Value) (H : Heap) : W.call 5 args H = callB Try.prog E1 Try.f5 args H := call_B Try.func5 rfl (by decide +kernel) rfl args H
theorem c6 (args : List Value) (H : Heap) : W.call 6 args H = callB Try.prog E1 Try.f6 args H := call_B Try.func6 rfl (by decide +kernel) rfl args H
theorem c8 (args : List Value) (H : Heap) : W.call 8 args H = callB Try.prog E1 Try.f8 args H := call_B Try.func8 rfl (by decide +kernel) rfl args H
theorem c9 (args : List Value) (H : Heap) : W.call 9 args H = callB Try.prog E1 Try.f9 args H := call_B Try.func9 rfl (by decide +kernel) rfl args H
theorem c10 (args : List Value) (H : Heap) : W.call 10 args H = callB Try.prog E1 Try.f10 args H := call_B Try.func10 rfl (by decide +kernel) rfl args H
theorem c11 (args : List Value) (H : Heap) : W.call 11 args H = callB Try.prog E1 Try.f11 args H := call_B Try.func11 rfl (by decide +kernel) rfl args H
theorem c12 (args : List Value) (H : Heap) : W.call 12 args H = callB Try.prog E1 Try.f12 args H := call_B Try.func12 rfl (by decide +kernel) rfl args H
theorem c13 (args : List Value) (H : Heap) : W.call 13 args H = callB Try.prog E1 Try.f13 args H := call_B Try.func13 rfl (by decide +kernel) rfl args H
theorem c14 (args : List Value) (H : Heap) : W.call 14 args H = callB Try.prog E1 Try.f14 args H := call_B Try.func14 rfl (by decide +kernel) rfl args H
theorem c15 (args : List Value) (H : Heap) : W.call 15 args H = callB Try.prog E1 Try.f15 args H := call_B Try.func15 rfl (by decide +kernel) rfl args H
theorem c16 (args : List Value) (H : Heap) : W.call 16 args H = callB Try.prog E1 Try.f16 args H := call_B Try.func16 rfl (by decide +kernel) rfl args H
theorem c17 (args : List Value) (H : Heap) : W.call 17 args H = callB Try.prog E1 Try.f17 args H := call_B Try.func17 rfl (by decide +kernel) rfl args H
theorem c18 (args : List Value) (H : Heap) : W.call 18 args H = callB Try.prog E1 Try.f18 args H := call_B Try.func18 rfl (by decide +kernel) rfl args H
theorem c19 (args : List Value) (H : Heap) : W.call 19 args H = callB Try.prog E1 Try.f19 args H := call_B Try.func19 rfl (by decide +kernel) rfl args H
theorem c20 (args : List Value) (H : Heap) : W.call 20 args H = callB Try.prog E1 Try.f20 args H := call_B Try.func20 rfl (by decide +kernel) rfl args H
theorem c21 (args : List Value) (H : Heap) : W.call 21 args H = callB Try.prog E1 Try.f21 args H := call_B Try.func21 rfl (by decide +kernel) rfl args H
theorem c22 (args : List Value) (H : Heap) : W.call 22 args H = callB Try.prog E1 Try.f22 args H := call_B Try.func22 rfl (by decide +kernel) rfl args H
theorem c23 (args : List Value) (H : Heap) : W.call 23 args H = callB Try.prog E1 Try.f23 args H := call_B Try.func23 rfl (by decide +kernel) rfl args H
theorem c24 (args : List Value) (H : Heap) : W.call 24 args H = callB Try.prog E1 Try.f24 args H := call_B Try.func24 rfl (by decide +kernel) rfl args H
theorem c25 (args : List Value) (H : Heap) : W.call 25 args H = callB Try.prog E1 Try.f25 args H := call_B Try.func25 rfl (by decide +kernel) rfl args H
theorem c26 (args : List Value) (H : Heap) : W.call 26 args H = callB Try.prog E1 Try.f26 args H := call_B Try.func26 rfl (by decide +kernel) rfl args H
theorem c27 (args : List Value) (H : Heap) : W.call 27 args H = callB Try.prog E1 Try.f27 args H := call_B Try.func27 rfl (by decide +kernel) rfl args H
theorem c28 (args : List Value) (H : Heap) : W.call 28 args H = callB Try.prog E1 Try.f28 args H := call_B Try.func28 rfl (by decide +kernel) rfl args H
theorem c29 (args : List Value) (H : Heap) : W.call 29 args H = callB Try.prog E1 Try.f29 args H := call_B Try.func29 rfl (by decide +kernel) rfl args H
theorem c30 (args : List Value) (H : Heap) : W.call 30 args H = callB Try.prog E1 Try.f30 args H := call_B Try.func30 rfl (by decide +kernel) rfl args H
theorem c31 (args : List Value) (H : Heap) : W.call 31 args H = callB Try.prog E1 Try.f31 args H := call_B Try.func31 rfl (by decide +kernel) rfl args H
theorem c32 (args : List Value) (H : Heap) : W.call 32 args H = callB Try.prog E1 Try.f32 args H := call_B Try.func32 rfl (by decide +kernel) rfl args H
theorem c33 (args : List Value) (H : Heap) : W.call 33 args H = callB Try.prog E1 Try.f33 args H := call_B Try.func33 rfl (by decide +kernel) rfl args H
theorem c34 (args : List Value) (H : Heap) : W.call 34 args H = callB Try.prog E1 Try.f34 args H := call_B Try.func34 rfl (by decide +kernel) rfl args H
theorem c35 (args : List Value) (H : Heap) : W.call 35 args H = callB Try.prog E1 Try.f35 args H := call_B Try.func35 rfl (by decide +kernel) rfl args H
theorem c36 (args : List Value) (H : Heap) : W.call 36 args H = callB Try.prog E1 Try.f36 args H := call_B Try.func36 rfl (by decide +kernel) rfl args H
theorem c37 (args : List Value) (H : Heap) : W.call 37 args H = callB Try.prog E1 Try.f37 args H := call_B Try.func37 rfl (by decide +kernel) rfl args H
theorem c38 (args : List Value) (H : Heap) : W.call 38 args H = callB Try.prog E1 Try.f38 args H := call_B Try.func38 rfl (by decide +kernel) rfl args H
theorem c39 (args : List Value) (H : Heap) : W.call 39 args H = callB Try.prog E1 Try.f39 args H := call_B Try.func39 rfl (by decide +kernel) rfl args H
theorem c40 (args : List Value) (H : Heap) : W.call 40 args H = callB Try.prog E1 Try.f40 args H := call_B Try.func40 rfl (by decide +kernel) rfl args H
theorem c41 (args : List Value) (H : Heap) : W.call 41 args H = callB Try.prog E1 Try.f41 args H := call_B Try.func41 rfl (by decide +kernel) rfl args H
theorem c42 (args : List Value) (H : Heap) : W.call 42 args H = callB Try.prog E1 Try.f42 args H := call_B Try.func42 rfl (by decide +kernel) rfl args H
def ptr (p : Nat) : Value := .pointer (some ⟨p, 0, none⟩)
@[simp] theorem ptr_eq (p : Nat) : ptr p = .pointer (some ⟨p, 0, none⟩) := id rfl
/-- A frame: its base, how many locals, where its caller goes on. -/
abbrev Fm := Int × Int × Int
def cellsF (f : Fm) : List Value := [iv f.1, iv f.2.1, iv f.2.2]
/-- The frames' cells, of a list whose first one is the innermost. -/
def flatR : List Fm → List Value
  | [] => []
  | f :: fs => flatR fs ++ cellsF f
theorem flatR_len (fs : List Fm) : (flatR fs).length = fs.length * 3 := by
  induction fs with
  | nil => rfl
  | cons f fs ih => simp [flatR, ih, cellsF]; omega
def GF (H : Heap) (v : Value) (fs : List Fm) (r : Option Nat) : Prop :=
  (v = .slice none 0 0 ∧ fs = [] ∧ r = none) ∨ ∃ id cs cap, r = some id ∧ v = .slice (some ⟨id, 0, none⟩) fs.length cap ∧ H.get id = .row true 1 3 cs ∧ cs.length = cap * 3 ∧ fs.length ≤ cap ∧ cs.take (fs.length * 3) = flatR fs
theorem GF.lt {H : Heap} {v : Value} {fs : List Fm} {r : Option Nat} (h : GF H v fs r) {i : Nat} (hi : r = some i) : i < H.n := by
  rcases h with ⟨_, _, h0⟩ | ⟨id, cs, cap, h0, _, h2, _⟩
  · rw [h0] at hi; cases hi
  · rw [h0] at hi; cases hi; exact Heap.lt_of_get h2 (by simp)
theorem GF.same {X : Nat → Prop} {H H' : Heap} {v : Value} {fs : List Fm} {r : Option Nat} (h : GF H v fs r) (k : Same X H H') (hx : ∀ i, r = some i → ¬ X i) : GF H' v fs r := by
  refine h.imp id ?_
  rintro ⟨id, cs, cap, h0, h1, h2, h3⟩
  exact ⟨id, cs, cap, h0, h1, k.at h2 (by simp) (hx id h0), h3⟩
theorem GF.slice {H : Heap} {v : Value} {fs : List Fm} {r : Option Nat} (h : GF H v fs r) : ∃ b c, v = .slice b fs.length c := by
  rcases h with ⟨rfl, rfl, _⟩ | ⟨id, cs, cap, _, rfl, _⟩ <;> exact ⟨_, _, rfl⟩
/-- The innermost frame's cells. -/
theorem GF.top {H : Heap} {v : Value} {f : Fm} {fs : List Fm} {r : Option Nat} (h : GF H v (f :: fs) r) : ∃ id cs cap, r = some id ∧ v = .slice (some ⟨id, 0, none⟩) (fs.length + 1) cap ∧ H.get id = .row true 1 3 cs ∧ cs.length = cap * 3 ∧ fs.length + 1 ≤ cap ∧
    fs.length * 3 + 3 ≤ cs.length ∧ (cs.drop (fs.length * 3)).take 3 = cellsF f := by
  rcases h with ⟨_, h0, _⟩ | ⟨id, cs, cap, h0, h1, h2, h3, h4, h5⟩
  · cases h0
  · simp only [List.length_cons] at h1 h4 h5
    refine ⟨id, cs, cap, h0, h1, h2, h3, h4, by omega, ?_⟩
    have e : cs.take ((fs.length + 1) * 3) = flatR fs ++ cellsF f := h5
    have := congrArg (List.drop (fs.length * 3)) e
    have hd : (flatR fs).drop (fs.length * 3) = [] := List.drop_of_length_le (by rw [flatR_len]; exact Nat.le_refl _)
    rw [List.drop_take, List.drop_append_of_le_length (by rw [flatR_len]; exact Nat.le_refl _), hd, show (fs.length + 1) * 3 - fs.length * 3 = 3 by omega, List.nil_append] at this
    exact this

/-- A stack's own words, apart from the store's: its place, its frames' row. -/
structure IsK (H : Heap) (k sp : Nat) (rf : Option Nat) (at_ size used : Nat) (fs : List Fm) : Prop where
  cur : ∃ v, H.get k = .row true 0 1 [ptr sp, iv at_, iv size, iv used, v] ∧ GF H v fs rf
  ne : rf ≠ some k
/-- A store: its place, its words' place, its words. -/
structure IsS (H : Heap) (p q : Nat) (ws : List Value) : Prop where
  store : H.get p = .row true 0 1 [.slice (some ⟨q, 0, none⟩) ws.length ws.length]
  words : H.get q = .row true 0 1 ws
  ne : p ≠ q
theorem IsS.same {X : Nat → Prop} {H H' : Heap} {p q : Nat} {ws : List Value} (h : IsS H p q ws) (k : Same X H H') (hp : ¬ X p) (hq : ¬ X q) : IsS H' p q ws :=
  ⟨k.at h.store (by simp) hp, k.at h.words (by simp) hq, h.ne⟩
theorem IsK.same {X : Nat → Prop} {H H' : Heap} {k sp : Nat} {rf : Option Nat} {a s u : Nat} {fs : List Fm} (h : IsK H k sp rf a s u fs) (f : Same X H H') (hk : ¬ X k) (hr : ∀ i, rf = some i → ¬ X i) : IsK H' k sp rf a s u fs := by
  obtain ⟨⟨v, h1, h2⟩, h3⟩ := h
  exact ⟨⟨v, f.at h1 (by simp) hk, h2.same f hr⟩, h3⟩
theorem IsK.lt {H : Heap} {k sp : Nat} {rf : Option Nat} {a s u : Nat} {fs : List Fm} (h : IsK H k sp rf a s u fs) : k < H.n := by
  obtain ⟨⟨v, h1, h2⟩, h3⟩ := h; exact Heap.lt_of_get h1 (by simp)

section
variable {H : Heap} {p q : Nat} {ws : List Value} (h : IsS H p q ws)
set_option linter.unusedSectionVars false
include h
theorem slen_run : W.call 22 [ptr p] H = some (.val (iv ws.length), H) := by
  rw [c22, callB, bodyOf]
  simp [Try.f22, h.store]
theorem sget_run (i : Nat) (v : Value) (h1 : ws[i]? = some v) : W.call 40 [ptr p, iv i] H = some (.val (.tuple #[v, .bool true]), H) := by
  have h2 := (List.getElem?_eq_some_iff.1 h1).1
  have e := slen_run h
  simp only [ptr_eq, iv_eq] at e
  rw [c40, callB, bodyOf]
  simp [Try.f40, show ¬ (i : Int) < 0 by omega, show ¬ ws.length ≤ i by omega, e, h.store, h.words, h1, h2]
  exact (List.getElem?_eq_some_iff.1 h1).2
theorem sput_run (i : Nat) (x : Int) (h1 : i < ws.length) : W.call 39 [ptr p, iv i, iv x] H = some (.val (.bool true), H.set q (.row true 0 1 (ws.set i (iv x)))) := by
  have e := slen_run h
  simp only [ptr_eq, iv_eq] at e
  have hw := writeAt_one ws i (iv x) h1
  simp only [writeAt, iv_eq] at hw
  rw [c39, callB, bodyOf]
  simp at hw
  simp [Try.f39, show ¬ (i : Int) < 0 by omega, show ¬ ws.length ≤ i by omega, e, h.store, h.words, h1, hw, show i + 1 ≤ ws.length by omega]
theorem IsS.set (ws' : List Value) (hl : ws'.length = ws.length) : IsS (H.set q (.row true 0 1 ws')) p q ws' where
  store := by rw [Heap.get_set _ _ _ (Heap.lt_of_get h.words (by simp)), if_neg h.ne, hl]; exact h.store
  words := by rw [Heap.get_set _ _ _ (Heap.lt_of_get h.words (by simp)), if_pos rfl]
  ne := h.ne
end

/-! ### Words by a cursor -/
theorem q3 : quiet Try.prog (drawN Try.f10 0) = true := by decide +kernel
theorem q5 : quiet Try.prog (drawN Try.f10 1) = true := by decide +kernel
theorem q12 : quiet Try.prog (drawN Try.f12 0) = true := by decide +kernel
theorem q13 : quiet Try.prog (drawN Try.f13 0) = true := by decide +kernel
theorem q21 : quiet Try.prog (drawN Try.f21 0) = true := by decide +kernel
theorem q23 : quiet Try.prog (drawN Try.f23 0) = true := by decide +kernel
theorem q24 : quiet Try.prog (drawN Try.f24 0) = true := by decide +kernel
theorem q26 : quiet Try.prog (drawN Try.f26 0) = true := by decide +kernel
theorem q27 : quiet Try.prog (drawN Try.f27 0) = true := by decide +kernel
theorem pl14 : planOf Try.prog (drawN Try.f14 0) = some [(some (0, 1)), (some (0, 1)), (some (0, 1)), (some (0, 1)), (some (0, 1)), none, none, none, none] := by decide +kernel
theorem pl17 : planOf Try.prog (drawN Try.f17 0) = some [(some (0, 1)), none, none, none, none, none, none, none, none, none, none, none, none, none, none] := by decide +kernel
theorem pl18 : planOf Try.prog (drawN Try.f13 1) = some [(some (0, 2)), (some (0, 1)), (some (0, 1)), (some (0, 1)), (some (0, 1)), none, none, none, none, none, none] := by decide +kernel

section
variable {H : Heap} {k sp q : Nat} {rf : Option Nat} {a s u : Nat} {fs : List Fm} {ws : List Value} (h : IsK H k sp rf a s u fs) (S : IsS H sp q ws) (hb : a + s ≤ ws.length) (hw : ws.length ≤ 8192)
set_option linter.unusedSectionVars false
include h S hb hw
theorem cget_run (i : Nat) (v : Value) (hi : i < s) (h1 : ws[a + i]? = some v) (hint : ∃ z, v = iv z) : W.call 24 [ptr k, iv i] H = some (.val v, H) := by
  obtain ⟨z, rfl⟩ := hint
  have key : Gives (W.call 24 [ptr k, iv i] H) fun o H' => o = .val (iv z) ∧ H' = H := by
    obtain ⟨⟨vf, g1, g2⟩, g3⟩ := h
    have e := sget_run S (a + i) (iv z) h1
    simp only [ptr_eq, iv_eq, Int.natCast_add] at e g1
    rw [c24, callB, bodyOf]
    simp [Try.f24]
    refine region_quiet (by exact q24) ?_
    simp [g1, wrap64 ((a : Int) + i) (by omega) (by omega), e]
  obtain ⟨o, H', e, rfl, rfl⟩ := key
  exact e
theorem cput_run (i : Nat) (x : Int) (hi : i < s) : W.call 23 [ptr k, iv i, iv x] H = some (.val (.tuple #[]), H.set q (.row true 0 1 (ws.set (a + i) (iv x)))) := by
  have key : Gives (W.call 23 [ptr k, iv i, iv x] H) fun o H' => o = .val (.tuple #[]) ∧ H' = H.set q (.row true 0 1 (ws.set (a + i) (iv x))) := by
    obtain ⟨⟨vf, g1, g2⟩, g3⟩ := h
    have e := sput_run S (a + i) x (by omega)
    simp only [ptr_eq, iv_eq, Int.natCast_add] at e g1
    rw [c23, callB, bodyOf]
    simp [Try.f23]
    refine region_quiet (by exact q23) ?_
    simp [g1, wrap64 ((a : Int) + i) (by omega) (by omega), e]
  obtain ⟨o, H', e, rfl, rfl⟩ := key
  exact e
end
section
variable {H : Heap} {k sp : Nat} {rf : Option Nat} {a s u : Nat} {fs : List Fm} (h : IsK H k sp rf a s u fs)
set_option linter.unusedSectionVars false
include h
theorem len_run : W.call 11 [ptr k] H = some (.val (iv u), H) := by
  obtain ⟨⟨vf, g1, g2⟩, g3⟩ := h
  rw [c11, callB, bodyOf]
  simp [Try.f11, g1]
theorem frames_run : W.call 15 [ptr k] H = some (.val (iv fs.length), H) := by
  obtain ⟨⟨vf, g1, g2⟩, g3⟩ := h
  obtain ⟨b, c, rfl⟩ := g2.slice
  rw [c15, callB, bodyOf]
  simp [Try.f15, g1]
/-- The innermost frame, in new memory. -/
theorem inner_nil (hf : fs = []) : Gives (W.call 26 [ptr k] H) fun o H' => o = .val (.tuple #[.agg #[iv 0, iv 0, iv 0], .bool false]) ∧ Same (fun _ => False) H H' := by
  obtain ⟨⟨vf, g1, g2⟩, g3⟩ := h
  subst hf
  obtain ⟨b, c, rfl⟩ := g2.slice
  have hk := Heap.lt_of_get g1 (by simp)
  rw [c26, callB, bodyOf]
  simp [Try.f26, g1, Heap.get_push_lt _ _ hk]
  exact Same.push _ _ _
theorem inner_run {f : Fm} {fs' : List Fm} (hf : fs = f :: fs') (hl : fs'.length ≤ 10000) : Gives (W.call 26 [ptr k] H) fun o H' => o = .val (.tuple #[.agg #[iv f.1, iv f.2.1, iv f.2.2], .bool true]) ∧ Same (fun _ => False) H H' := by
  obtain ⟨⟨vf, g1, g2⟩, g3⟩ := h
  subst hf
  obtain ⟨id1, cs, cap, rfl, rfl, k1, k2, k3, k4, k5⟩ := g2.top
  have hk := Heap.lt_of_get g1 (by simp)
  have hi := Heap.lt_of_get k1 (by simp)
  rw [c26, callB, bodyOf]
  simp [Try.f26, g1, Heap.get_push_lt _ _ hk, show ¬ ((fs'.length : Int) + 1 = 0) by omega]
  refine region_quiet (by exact q26) ?_
  simp [g1, Heap.get_push_lt _ _ hk, Heap.get_push_lt _ _ hi, k1, k4, k5, cellsF, wrap64 (fs'.length : Int) (by omega) (by omega), show (fs'.length : Int) < fs'.length + 1 by omega]
  exact Same.push _ _ _
/-- How many operands. -/
def opn (u : Nat) (fs : List Fm) : Int := match fs with
  | [] => u
  | f :: _ => u - (f.1 + f.2.1 + 2)
/-- The frames' numbers are small. -/
def FOK (fs : List Fm) : Prop := fs.length ≤ 10000 ∧ ∀ f ∈ fs, 0 ≤ f.1 ∧ f.1 ≤ 100000 ∧ 0 ≤ f.2.1 ∧ f.2.1 ≤ 100000
theorem low_run (H : Heap) (x y z : Int) (hx : 0 ≤ x ∧ x ≤ 100000) (hy : 0 ≤ y ∧ y ≤ 100000) : W.call 25 [.agg #[iv x, iv y, iv z]] H = some (.val (iv (x + y + 2)), H.push (.row true 0 1 [iv x, iv y, iv z])) := by
  rw [c25, callB, bodyOf]
  simp [Try.f25, wrap64 (x + y) (by omega) (by omega), wrap64 (x + y + 2) (by omega) (by omega)]
theorem opn_run (hu : u ≤ 100000) (hf : FOK fs) : Gives (W.call 14 [ptr k] H) fun o H' => o = .val (iv (opn u fs)) ∧ Same (fun _ => False) H H' := by
  cases hfs : fs with
  | nil =>
    obtain ⟨o, H1, e1, rfl, f1⟩ := inner_nil h hfs
    have h1 := h.same f1 (fun h => h) (fun _ _ h => h)
    have f2 := Same.push (fun _ => False) H1 (.row true 0 1 [iv 0, iv 0, iv 0])
    have e2 := len_run (h1.same f2 (fun h => h) (fun _ _ h => h))
    simp only [ptr_eq, iv_eq] at e1 e2
    rw [c14, callB, bodyOf]
    simp [Try.f14, e1, e2, opn]
    exact f1.trans f2
  | cons f fs' =>
    obtain ⟨hf1, hf2⟩ := hf
    rw [hfs] at hf1 hf2
    have hff := hf2 f (by simp)
    simp at hf1
    obtain ⟨o, H1, e1, rfl, f1⟩ := inner_run h hfs (by omega)
    have f2 := Same.push (fun _ => False) H1 (.row true 0 1 [iv f.1, iv f.2.1, iv f.2.2])
    have h2 := (h.same f1 (fun h => h) (fun _ _ h => h)).same f2 (fun h => h) (fun _ _ h => h)
    obtain ⟨⟨vf, g1, g2⟩, g3⟩ := h2
    have hk := Heap.lt_of_get g1 (by simp)
    have e2 := low_run h (H1.push (.row true 0 1 [iv f.1, iv f.2.1, iv f.2.2])) f.1 f.2.1 f.2.2 (by omega) (by omega)
    simp only [ptr_eq, iv_eq] at e1 e2 g1 hk
    rw [c14, callB, bodyOf]
    simp [Try.f14, e1]
    refine region_plan (by exact pl14) ?_
    simp [g1, e2, Heap.get_push_lt _ _ hk, opn, wrap64 ((u : Int) - (f.1 + f.2.1 + 2)) (by omega) (by omega)]
    exact (f1.trans f2).trans (Same.push _ _ _)
end

/-- A stack in words of a store. -/
structure St (H : Heap) (k sp q : Nat) (rf : Option Nat) (a s u : Nat) (fs : List Fm) (zs : List Int) : Prop where
  cur : IsK H k sp rf a s u fs
  sto : IsS H sp q (zs.map iv)
  kq : k ≠ q
  ksp : k ≠ sp
  rq : rf ≠ some q
  rsp : rf ≠ some sp
  fit : a + s ≤ zs.length
  big : zs.length ≤ 8192
  used : u ≤ s
  fok : FOK fs
theorem St.same {X : Nat → Prop} {H H' : Heap} {k sp q : Nat} {rf : Option Nat} {a s u : Nat} {fs : List Fm} {zs : List Int} (h : St H k sp q rf a s u fs zs) (f : Same X H H') (h1 : ¬ X k) (h2 : ¬ X sp) (h3 : ¬ X q) (h4 : ∀ i, rf = some i → ¬ X i) : St H' k sp q rf a s u fs zs :=
  { h with cur := h.cur.same f h1 h4, sto := h.sto.same f h2 h3 }
theorem St.same0 {H H' : Heap} {k sp q : Nat} {rf : Option Nat} {a s u : Nat} {fs : List Fm} {zs : List Int} (h : St H k sp q rf a s u fs zs) (f : Same (fun _ => False) H H') : St H' k sp q rf a s u fs zs :=
  h.same f (fun h => h) (fun h => h) (fun h => h) (fun _ _ h => h)
section
variable {H : Heap} {k sp q : Nat} {rf : Option Nat} {a s u : Nat} {fs : List Fm} {zs : List Int} (h : St H k sp q rf a s u fs zs)
set_option linter.unusedSectionVars false
include h
theorem St.get (i : Nat) (hi : i < s) : W.call 24 [ptr k, iv i] H = some (.val (iv (zs.getD (a + i) 0)), H) := by
  have hf := h.fit
  refine cget_run h.cur h.sto (by simpa using h.fit) (by simpa using h.big) i _ hi ?_ ⟨_, rfl⟩
  rw [List.getElem?_map, List.getElem?_eq_getElem (by omega), List.getD_eq_getElem?_getD, List.getElem?_eq_getElem (by omega)]
  rfl
/-- A word is turned. -/
theorem St.put (i : Nat) (x : Int) (hi : i < s) : ∃ H1, W.call 23 [ptr k, iv i, iv x] H = some (.val (.tuple #[]), H1) ∧ St H1 k sp q rf a s u fs (zs.set (a + i) x) ∧ Same (· = q) H H1 := by
  have hq := Heap.lt_of_get h.sto.words (by simp)
  have f := Same.set (X := (· = q)) H hq rfl (.row true 0 1 ((zs.map iv).set (a + i) (iv x)))
  refine ⟨_, cput_run h.cur h.sto (by simpa using h.fit) (by simpa using h.big) i x hi, ?_, f⟩
  exact { h with cur := h.cur.same f h.kq (fun j hj e => h.rq (by rw [hj, e])), sto := by rw [List.map_set]; exact h.sto.set _ (by simp), fit := by simpa using h.fit, big := by simpa using h.big }
/-- Its cursor is turned. -/
theorem St.turn (u' : Nat) (hu : u' ≤ s) : ∃ v, H.get k = .row true 0 1 [ptr sp, iv a, iv s, iv u, v] ∧ St (H.set k (.row true 0 1 [ptr sp, iv a, iv s, iv u', v])) k sp q rf a s u' fs zs ∧ Same (· = k) H (H.set k (.row true 0 1 [ptr sp, iv a, iv s, iv u', v])) := by
  obtain ⟨⟨v, g1, g2⟩, g3⟩ := h.cur
  have hk := Heap.lt_of_get g1 (by simp)
  have f := Same.set (X := (· = k)) H hk rfl (.row true 0 1 [ptr sp, iv a, iv s, iv u', v])
  exact ⟨v, g1, { h with cur := ⟨⟨v, Heap.get_set_self _ _ hk, g2.same f (fun i hi e => g3 (by rw [hi, e]))⟩, g3⟩, sto := h.sto.same f (fun e => h.ksp e.symm) (fun e => h.kq e.symm), used := hu }, f⟩
theorem push_full (hu : s ≤ u) (x : Int) : W.call 10 [ptr k, iv x] H = some (.val (iv 41), H) := by
  have key : Gives (W.call 10 [ptr k, iv x] H) fun o H' => o = .val (iv 41) ∧ H' = H := by
    obtain ⟨⟨v, g1, g2⟩, g3⟩ := h.cur
    rw [c10, callB, bodyOf]
    simp [Try.f10]
    refine region_quiet (by exact q3) ?_
    simp [g1, show s ≤ u from hu]
  obtain ⟨o, H', e, rfl, rfl⟩ := key
  exact e
theorem push_run (hu : u < s) (x : Int) : ∃ H', W.call 10 [ptr k, iv x] H = some (.val (iv 0), H') ∧ St H' k sp q rf a s (u + 1) fs (zs.set (a + u) x) ∧ Same (fun i => i = k ∨ i = q) H H' := by
  have hbig := h.big
  have hfit := h.fit
  obtain ⟨H1, e1, h1, f1⟩ := h.put u x hu
  obtain ⟨v1, g1, h2, f2⟩ := h1.turn (u + 1) (by omega)
  have hk1 := Heap.lt_of_get g1 (by simp)
  have key : Gives (W.call 10 [ptr k, iv x] H) fun o H' => o = .val (iv 0) ∧ H' = H1.set k (.row true 0 1 [ptr sp, iv a, iv s, iv (u + 1 : Nat), v1]) := by
    obtain ⟨⟨v, g3, _⟩, _⟩ := h.cur
    simp only [ptr_eq, iv_eq] at e1 g1
    rw [c10, callB, bodyOf]
    simp [Try.f10]
    refine region_quiet (by exact q3) ?_
    simp [g3, show ¬ s ≤ u by omega]
    refine region_quiet (by exact q5) ?_
    simp [g3, e1, g1, wrap64 ((u : Int) + 1) (by omega) (by omega)]
  obtain ⟨o, H', e, rfl, rfl⟩ := key
  exact ⟨_, e, h2, (f1.mono fun i h => .inr h).trans (f2.mono fun i h => .inl h)⟩
theorem pop_none (ho : opn u fs = 0) : ∃ H', W.call 12 [ptr k] H = some (.val (.tuple #[iv 0, iv 4]), H') ∧ Same (fun _ => False) H H' := by
  have hbig := h.big
  have hfit := h.fit
  have hus := h.used
  obtain ⟨o, H1, e1, rfl, f1⟩ := opn_run h.cur (by omega) h.fok
  rw [ho] at e1
  have key : Gives (W.call 12 [ptr k] H) fun o H' => o = .val (.tuple #[iv 0, iv 4]) ∧ H' = H1 := by
    simp only [ptr_eq, iv_eq] at e1
    rw [c12, callB, bodyOf]
    simp [Try.f12, e1]
  obtain ⟨o, H', e, rfl, rfl⟩ := key
  exact ⟨_, e, f1⟩
theorem pop_run (ho : 0 < opn u fs) (hu : 0 < u) : ∃ H', W.call 12 [ptr k] H = some (.val (.tuple #[iv (zs.getD (a + (u - 1)) 0), iv 0]), H') ∧ St H' k sp q rf a s (u - 1) fs zs ∧ Same (· = k) H H' := by
  have hbig := h.big
  have hfit := h.fit
  have hus := h.used
  obtain ⟨o, H1, e1, rfl, f1⟩ := opn_run h.cur (by omega) h.fok
  have h1 := h.same0 f1
  obtain ⟨v1, g1, h2, f2⟩ := h1.turn (u - 1) (by omega)
  have e2 := h2.get (u - 1) (by omega)
  have hk1 := Heap.lt_of_get g1 (by simp)
  have key : Gives (W.call 12 [ptr k] H) fun o H' => o = .val (.tuple #[iv (zs.getD (a + (u - 1)) 0), iv 0]) ∧ H' = H1.set k (.row true 0 1 [ptr sp, iv a, iv s, iv (u - 1 : Nat), v1]) := by
    simp only [ptr_eq, iv_eq] at e1 g1 e2
    rw [show ((u - 1 : Nat) : Int) = (u : Int) - 1 by omega] at e2 ⊢
    rw [c12, callB, bodyOf]
    simp [Try.f12, e1, show ¬ opn u fs = 0 by omega, g1, wrap64 ((u : Int) - 1) (by omega) (by omega)]
    refine region_quiet (by exact q12) ?_
    simp [Heap.get_set_self _ _ hk1, e2]
  obtain ⟨o, H', e, rfl, rfl⟩ := key
  exact ⟨_, e, h2, (f1.mono fun i h => h.elim).trans f2⟩
end
end Go.Vm.StackLaw
