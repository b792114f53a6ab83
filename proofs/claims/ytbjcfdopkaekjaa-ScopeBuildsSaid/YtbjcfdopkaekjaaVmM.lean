/- What is proved: a slice that a law is handed, as an object of the machine that is only read; no theorem of the program. -/
import Derived.Test.YtbjcfdopkaekjaaVmK
import Derived.Deep.Slices
import Derived.Deep.Strs
import Derived.ChangeArms
import Derived.WideShapes
namespace Go.Vm
open Go.RowKit
set_option linter.unusedSimpArgs false
set_option linter.unusedVariables false
variable {P : Program} {N : Th} {W0 : World} {L : Lay} {H : Heap} {w : World}

/-- A row that lies below the call's own memory. -/
theorem Sim.lent (S : Sim N W0 L H w) {b o : Nat} (hb : b < N.n) {cs : List Value} (hc : ∀ j (h : j < cs.length), w.cell? ⟨b, o + j, none⟩ = some cs[j]) (hg : groundL cs = true) (h1 : One cs) :
    Sim N W0 (upd L H.n (b, o, 0)) (H.push (.row false 0 0 cs)) w := by
  refine S.put _ (b, o, 0) ⟨fun k hk => ⟨cs[k], hc k hk, (groundL_LR _ cs hg).2 k hk hk⟩, h1, fun _ => rfl, fun _ => hb, fun h => by cases h⟩ ?_
  intro j b' k h
  exact h.elim

section
variable {D : Type} {enc : TypeId × Value → D} {base : Nat} {spare : Nat → Bool} {held : Bool}

theorem okWide_spot {t e : TypeId} (ht : P.underlying t = some (.slice e)) {a : Addr} {len cap : Nat} (h : Value.okWide P w .any base t (.slice (some a) len cap)) : a.spot = none ∧ a.block < w.heap.size := by
  unfold Value.okWide at h
  rw [ht] at h
  simp only at h
  unfold Cell.okWide at h
  rw [ht] at h
  simp only at h
  unfold Cell.ok at h
  rw [ht] at h
  simp only at h
  obtain ⟨_, _, _, h2, row, cells, h3, _⟩ := h
  refine ⟨h2, ?_⟩
  unfold World.shape? at h3
  cases hh : w.heap[a.block]? with
  | none => rw [hh] at h3; cases h3
  | some o => exact (Array.getElem?_eq_some_iff.1 hh).1

/-- A slice whose elements' cells are all such: what it is made of. -/
theorem open_cells {b0 : Nat} {t e : TypeId} {p : Value → Prop} {v : Value} {d : DataW D} {ps : List MemPlace} (ht : P.underlying t = some (.slice e)) (hpos : 0 < P.cellsOf e)
    (he : ∀ fuel cs x, DataW.trod enc P w base (fun _ => true) held fuel e cs = some x → ∀ c ∈ cs, p c)
    (hval : Value.okWide P w .any b0 t v) (hd : DataW.Trod enc P w base (fun _ => true) held t v d ps) :
    v = .slice none 0 0 ∨ ∃ (b o len cap : Nat), v = .slice (some ⟨b, o, none⟩) len cap ∧ b < w.heap.size ∧ len ≤ cap ∧ cap ≤ maxLen ∧
      ∀ j, j < cap * P.cellsOf e → ∃ c, w.cell? ⟨b, o + j, none⟩ = some c ∧ p c := by
  obtain ⟨a, len, cap, rfl⟩ := WideShapes.okWide_slice ht hval
  obtain ⟨fuel, hf⟩ := hd
  have hcells : (Value.slice a len cap).cells.toList = [.slice a len cap] := rfl
  rw [hcells] at hf
  rcases Go.Deep.open_slice ht hf with ⟨h0, _⟩ | ⟨a', len', cap', m, n, Df, Pl, h0, hb, hl, hm, hmm, _, hx⟩
  · simp only [List.cons.injEq, and_true] at h0
    exact .inl h0
  · simp only [List.cons.injEq, Value.slice.injEq, and_true] at h0
    obtain ⟨rfl, rfl, rfl⟩ := h0
    obtain ⟨hsp, hlt⟩ := okWide_spot ht hval
    obtain ⟨b, o, sp⟩ := a'
    simp only at hsp hlt
    subst hsp
    refine .inr ⟨b, o, len, cap, rfl, hlt, hl, hm, fun j hj => ?_⟩
    simp only [if_true] at hmm
    subst hmm
    have hi : j / P.cellsOf e < m := Nat.div_lt_of_lt_mul (by rwa [Nat.mul_comm] at hj)
    obtain ⟨cs', h1, h2⟩ := hx (j / P.cellsOf e) hi
    obtain ⟨_, h3, h4⟩ := World.cells?_some h1
    have hr : j % P.cellsOf e < P.cellsOf e := Nat.mod_lt _ hpos
    have h5 := h4 (j % P.cellsOf e) hr
    have e1 : ((⟨b, o, none⟩ : Addr).add (j / P.cellsOf e * P.cellsOf e)).add (j % P.cellsOf e) = ⟨b, o + j, none⟩ := by
      rw [Addr.add_mid, Addr.add_mid]
      have := Nat.div_add_mod j (P.cellsOf e)
      rw [Nat.mul_comm] at this
      congr 1
      omega
    rw [e1, List.getElem?_eq_getElem (by omega)] at h5
    exact ⟨_, h5, he _ _ _ h2 _ (List.getElem_mem _)⟩

/-- The cells, as a list. -/
theorem cells_list {p : Value → Prop} {b o n : Nat} (h : ∀ j, j < n → ∃ c, w.cell? ⟨b, o + j, none⟩ = some c ∧ p c) : ∃ cs : List Value, cs.length = n ∧ (∀ j (h : j < cs.length), w.cell? ⟨b, o + j, none⟩ = some cs[j]) ∧ ∀ c ∈ cs, p c := by
  induction n with
  | zero => exact ⟨[], rfl, fun j h => by simp at h, fun c h => by simp at h⟩
  | succ n ih =>
    obtain ⟨cs, h1, h2, h3⟩ := ih fun j hj => h j (by omega)
    obtain ⟨c, h4, h5⟩ := h n (by omega)
    refine ⟨cs ++ [c], by simp [h1], fun j hj => ?_, fun c' hc => ?_⟩
    · simp only [List.length_append, List.length_cons, List.length_nil] at hj
      by_cases e : j < cs.length
      · rw [List.getElem_append_left e]; exact h2 j e
      · have : j = n := by omega
        subst this
        rw [List.getElem_append_right (by omega)]
        simpa using h4
    · rcases List.mem_append.1 hc with hc | hc
      · exact h3 c' hc
      · simp only [List.mem_singleton] at hc; subst hc; exact h5

def isInt (k : IntKind) (c : Value) : Prop := ∃ n, c = .int k n ∧ k.min ≤ n ∧ n ≤ k.max
def isBool (c : Value) : Prop := ∃ b, c = .bool b

theorem wf_int {k : IntKind} {n : Int} (h : (Lit.int k n).wf = true) : k.min ≤ n ∧ n ≤ k.max := by
  simpa [Lit.wf] using h

theorem trod_isInt {e : TypeId} {k : IntKind} (he : P.underlying e = some (.int k)) : ∀ fuel cs x, DataW.trod enc P w base spare held fuel e cs = some x → ∀ c ∈ cs, isInt k c := by
  intro fuel cs x h c hc
  obtain ⟨n, rfl, _, hw⟩ := DataW.trod_int he h
  simp only [List.mem_singleton] at hc
  exact ⟨n, hc, wf_int hw⟩
theorem trod_isBool {e : TypeId} (he : P.underlying e = some .bool) : ∀ fuel cs x, DataW.trod enc P w base spare held fuel e cs = some x → ∀ c ∈ cs, isBool c := by
  intro fuel cs x h c hc
  obtain ⟨b, rfl, _⟩ := DataW.trod_bool he h
  simp only [List.mem_singleton] at hc
  exact ⟨b, hc⟩

/-- Are a struct's fields numbers of one kind, one cell each, side by side? -/
def intFields (P : Program) (k : IntKind) (fs : Array Field) (n : Nat) : Bool :=
  Nat.beq fs.size n && (List.range n).all fun i => match fs[i]? with
    | some f => Nat.beq f.offset i && Nat.beq (P.cellsOf f.type) 1 && (match P.underlying f.type with | some (.int k') => k' == k | _ => false)
    | none => false

theorem trod_isInts {e : TypeId} {fs : Array Field} {k : IntKind} (he : P.underlying e = some (.struct fs)) (hf : intFields P k fs (P.cellsOf e) = true) :
    ∀ fuel cs x, DataW.trod enc P w base spare held fuel e cs = some x → ∀ c ∈ cs, isInt k c := by
  intro fuel cs x h c hc
  obtain ⟨xs, n, _, _, h1, h2, h3⟩ := DataW.trod_struct he h
  obtain ⟨i, hi, rfl⟩ := List.getElem_of_mem hc
  unfold intFields at hf
  simp only [Bool.and_eq_true, List.all_eq_true, List.mem_range] at hf
  have h4 := hf.2 i (by omega)
  have hn := Nat.eq_of_beq_eq_true hf.1
  cases hq : fs[i]? with
  | none => rw [hq] at h4; cases h4
  | some f =>
    rw [hq] at h4
    simp only [Bool.and_eq_true] at h4
    obtain ⟨⟨h5, h6⟩, h7⟩ := h4
    have h5 := Nat.eq_of_beq_eq_true h5
    have h6 := Nat.eq_of_beq_eq_true h6
    have h8 := h3 i f hq
    rw [h5, h6] at h8
    have e1 : (cs.drop i).take 1 = [cs[i]] := by
      rw [List.drop_eq_getElem_cons hi]; rfl
    rw [e1] at h8
    cases hu : P.underlying f.type with
    | none => rw [hu] at h7; cases h7
    | some d =>
      rw [hu] at h7
      cases d <;> first | cases h7 | skip
      rename_i k'
      have hk : k' = k := by simpa using h7
      subst hk
      rw [List.getElem?_eq_getElem (by omega)] at h8
      exact trod_isInt hu _ _ _ h8 _ (by simp)
end

theorem ints_ground {k : IntKind} : ∀ {cs : List Value}, (∀ c ∈ cs, isInt k c) → groundL cs = true ∧ One cs
  | [], _ => ⟨rfl, One.nil⟩
  | c :: cs, h => by
    obtain ⟨n, rfl, _⟩ := h c (by simp)
    have ih := ints_ground (cs := cs) fun c hc => h c (List.mem_cons_of_mem _ hc)
    exact ⟨by simp only [groundL, ground_int, ih.1, Bool.and_self], fun i hi => by cases i with | zero => rfl | succ i => exact ih.2 i (by simpa using hi)⟩
theorem bools_ground : ∀ {cs : List Value}, (∀ c ∈ cs, isBool c) → groundL cs = true ∧ One cs
  | [], _ => ⟨rfl, One.nil⟩
  | c :: cs, h => by
    obtain ⟨n, rfl⟩ := h c (by simp)
    have ih := bools_ground (cs := cs) fun c hc => h c (List.mem_cons_of_mem _ hc)
    exact ⟨by simp only [groundL, ground_bool, ih.1, Bool.and_self], fun i hi => by cases i with | zero => rfl | succ i => exact ih.2 i (by simpa using hi)⟩
end Go.Vm

namespace Go.Vm
open Go.RowKit
set_option linter.unusedSimpArgs false
set_option linter.unusedVariables false
variable {P : Program} {N : Th} {W0 : World} {L : Lay} {H : Heap} {w : World}

theorem Sim.none (S : Sim N W0 L H w) : Sim N W0 L (H.push .dead) w where
  calm := S.calm
  below := S.below
  base := S.base
  ghost := S.ghost
  void := fun id h => ⟨by have := (S.void id h).1; simp; omega, (S.void id h).2⟩
  fresh := fun id h => S.fresh id (by simp at h; omega)
  obj := fun id => by
    rw [Heap.get_push]
    by_cases c : id = H.n
    · rw [if_pos c]; trivial
    · rw [if_neg c]; exact S.obj id
  apart := fun i j b k hij h1 h2 => by
    rw [Heap.get_push] at h1 h2
    by_cases c : i = H.n
    · rw [if_pos c] at h1; exact h1.elim
    · by_cases c2 : j = H.n
      · rw [if_pos c2] at h2; exact h2.elim
      · rw [if_neg c] at h1; rw [if_neg c2] at h2
        exact S.apart i j b k hij h1 h2

/-- What a slice of a law's input is, as an object of the machine. -/
def FlatArg (p : Value → Prop) (n k : Nat) (x : Value) (o : AObj) : Prop :=
  ∃ base len cap cs, x = .slice base len cap ∧ len ≤ cap ∧ cap ≤ maxLen ∧ cs.length = cap * n ∧ (∀ c ∈ cs, p c) ∧
    ((base = Option.none ∧ o = .dead ∧ len = 0 ∧ cap = 0) ∨ (base = some ⟨k, 0, Option.none⟩ ∧ o = .row false 0 0 cs))

section
variable {D : Type} {enc : TypeId × Value → D} {base : Nat}
theorem Sim.flat {b0 : Nat} (S : Sim w.heap.size w L H w) {t e : TypeId} {p : Value → Prop} {v : Value} {d : DataW D} {ps : List MemPlace} (ht : P.underlying t = some (.slice e)) (hpos : 0 < P.cellsOf e)
    (he : ∀ fuel cs x, DataW.trod enc P w base (fun _ => true) true fuel e cs = some x → ∀ c ∈ cs, p c) (hg : ∀ cs, (∀ c ∈ cs, p c) → groundL cs = true ∧ One cs)
    (hval : Value.okWide P w .any b0 t v) (hd : DataW.Trod enc P w base (fun _ => true) true t v d ps) :
    ∃ x o L', FlatArg p (P.cellsOf e) H.n x o ∧ Sim w.heap.size w L' (H.push o) w ∧ L.le L' ∧ VR L' x v := by
  rcases open_cells ht hpos he hval hd with rfl | ⟨b, o, len, cap, rfl, hb, h1, h2, h3⟩
  · exact ⟨.slice Option.none 0 0, .dead, L, ⟨_, _, _, [], rfl, Nat.le_refl _, Nat.zero_le _, by simp, (fun c h => by cases h), .inl ⟨rfl, rfl, rfl, rfl⟩⟩, S.none, Lay.le_refl L, .snil _ _⟩
  · obtain ⟨cs, h4, h5, h6⟩ := cells_list h3
    refine ⟨.slice (some ⟨H.n, 0, Option.none⟩) len cap, .row false 0 0 cs, upd L H.n (b, o, 0), ⟨_, _, _, cs, rfl, h1, h2, h4, h6, .inr ⟨rfl, rfl⟩⟩, S.lent hb h5 (hg cs h6).1 (hg cs h6).2, upd_le (S.fresh _ (Nat.le_refl _)), ?_⟩
    have := VR.slice (L := upd L H.n (b, o, 0)) H.n 0 len cap b o 0 (upd_same _ _ _)
    simpa using this
end

theorem LR.nil' : LR L [] [] := ⟨rfl, fun i h => by simp at h⟩
theorem LR.snoc {x x' : List Value} {v v' : Value} (h : LR L x x') (k : VR L v v') : LR L (x ++ [v]) (x' ++ [v']) := by
  refine ⟨by simp [h.1], fun i h1 h2 => ?_⟩
  by_cases c : i < x.length
  · rw [List.getElem_append_left c, List.getElem_append_left (by rw [← h.1]; exact c)]
    exact h.2 i c _
  · have e : i = x.length := by simp at h1; omega
    subst e
    rw [List.getElem_append_right (Nat.le_refl _), List.getElem_append_right (by rw [h.1]; exact Nat.le_refl _)]
    simpa [h.1] using k
theorem LR.mono' {L' : Lay} {x x' : List Value} (hl : L.le L') (h : LR L x x') : LR L' x x' := ⟨h.1, fun i h1 h2 => (h.2 i h1 h2).mono hl⟩
theorem VR.ground (v : Value) (h : ground v = true) : VR L v v := ground_VR L v h

/-- The call of a law, from the machine's run. -/
theorem calls_true (hm : P.follows .mixedOrders = true) {E : Hooks} {f : FuncId} {fn : Func} {c : Code} (hf : P.funcs[f]? = some fn) (hb : fn.body = some c) {args args' : List Value}
    (h : Gives ((run P E).call f args H) fun o _ => o = .val (.bool true)) (hE : ∀ N W0, CallOK P N W0 E.run) (S : Sim w.heap.size w L H w) (ha : LR L args args') :
    Calls P f ⟨args'⟩ w fun e w' => e = .returned (.bool true) ∧ Below w.heap.size w w' := by
  obtain ⟨o, H', h1, rfl⟩ := h
  exact calls_of_run hm hf hb h1 rfl hE S ha
end Go.Vm
