/- What is proved: how the abstract machine's objects stand to a world's memory; no theorem of the program. -/
import Derived.Test.YtbjcfdopkaekjaaVmA
namespace Go.Vm
open Go.RowKit

abbrev Lay := Nat → Option (Nat × Nat × Nat)

def Lay.le (L L' : Lay) : Prop := ∀ id x, L id = some x → L' id = some x
theorem Lay.le_refl (L : Lay) : L.le L := fun _ _ h => h
theorem Lay.le_trans {A B C : Lay} (h : A.le B) (k : B.le C) : A.le C := fun i x e => k i x (h i x e)

inductive VR (L : Lay) : Value → Value → Prop
  | bool (b : Bool) : VR L (.bool b) (.bool b)
  | int (k : IntKind) (n : Int) : VR L (.int k n) (.int k n)
  | float (k : FloatKind) (n : Nat) : VR L (.float k n) (.float k n)
  | complex (k : FloatKind) (n m : Nat) : VR L (.complex k n m) (.complex k n m)
  | string (s : ByteArray) : VR L (.string s) (.string s)
  | pnil : VR L (.pointer none) (.pointer none)
  | ptr (id off b o t : Nat) (h : L id = some (b, o, t)) : VR L (.pointer (some ⟨id, off, none⟩)) (.pointer (some ⟨b, o + off, none⟩))
  | snil (l c : Nat) : VR L (.slice none l c) (.slice none l c)
  | slice (id off l c b o t : Nat) (h : L id = some (b, o, t)) : VR L (.slice (some ⟨id, off, none⟩) l c) (.slice (some ⟨b, o + off, none⟩) l (c + t))
  | mnil : VR L (.map none) (.map none)
  | map (id b o t : Nat) (h : L id = some (b, o, t)) : VR L (.map (some id)) (.map (some b))
  | cnil : VR L (.chan none) (.chan none)
  | func (fn : Fn) (x x' y y' : List Value) (hx : x.length = x'.length) (hy : y.length = y'.length)
      (ex : ∀ i (h : i < x.length) (h' : i < x'.length), VR L x[i] x'[i]) (ey : ∀ i (h : i < y.length) (h' : i < y'.length), VR L y[i] y'[i]) :
      VR L (.func fn ⟨x⟩ ⟨y⟩) (.func fn ⟨x'⟩ ⟨y'⟩)
  | nilFunc : VR L .nilFunc .nilFunc
  | iface (t : TypeId) (v v' : Value) (h : VR L v v') : VR L (.iface t v) (.iface t v')
  | nilIface : VR L .nilIface .nilIface
  | agg (x x' : List Value) (hx : x.length = x'.length) (ex : ∀ i (h : i < x.length) (h' : i < x'.length), VR L x[i] x'[i])
      (e1 : ∀ i (h : i < x.length), x[i].oneCell' = true) : VR L (.agg ⟨x⟩) (.agg ⟨x'⟩)
  | tuple (x x' : List Value) (hx : x.length = x'.length) (ex : ∀ i (h : i < x.length) (h' : i < x'.length), VR L x[i] x'[i]) : VR L (.tuple ⟨x⟩) (.tuple ⟨x'⟩)

/-- Two lists of values that stand so to each other, one by one. -/
def LR (L : Lay) (x x' : List Value) : Prop := x.length = x'.length ∧ ∀ i (h : i < x.length) (h' : i < x'.length), VR L x[i] x'[i]
def One (x : List Value) : Prop := ∀ i (h : i < x.length), x[i].oneCell' = true

theorem VR.mono {L L' : Lay} (hl : L.le L') {v v' : Value} (h : VR L v v') : VR L' v v' := by
  induction h with
  | bool b => exact .bool b
  | int k n => exact .int k n
  | float k n => exact .float k n
  | complex k n m => exact .complex k n m
  | string s => exact .string s
  | pnil => exact .pnil
  | ptr id off b o t h => exact .ptr id off b o t (hl _ _ h)
  | snil l c => exact .snil l c
  | slice id off l c b o t h => exact .slice id off l c b o t (hl _ _ h)
  | mnil => exact .mnil
  | map id b o t h => exact .map id b o t (hl _ _ h)
  | cnil => exact .cnil
  | func fn x x' y y' hx hy _ _ ihx ihy => exact .func fn x x' y y' hx hy ihx ihy
  | nilFunc => exact .nilFunc
  | iface t v v' _ ih => exact .iface t v v' ih
  | nilIface => exact .nilIface
  | agg x x' hx _ e1 ih => exact .agg x x' hx ih e1
  | tuple x x' hx _ ih => exact .tuple x x' hx ih
theorem LR.mono {L L' : Lay} (hl : L.le L') {x x' : List Value} (h : LR L x x') : LR L' x x' := ⟨h.1, fun i h1 h2 => (h.2 i h1 h2).mono hl⟩

theorem LR.nil (L : Lay) : LR L [] [] := ⟨rfl, fun i h => by simp at h⟩
theorem LR.cons {L : Lay} {v v' : Value} {x x' : List Value} (h : VR L v v') (hs : LR L x x') : LR L (v :: x) (v' :: x') := by
  refine ⟨by simp [hs.1], fun i h1 h2 => ?_⟩
  cases i with
  | zero => exact h
  | succ i => exact hs.2 i (by simpa using h1) (by simpa using h2)
theorem LR.head {L : Lay} {v v' : Value} {x x' : List Value} (h : LR L (v :: x) (v' :: x')) : VR L v v' := h.2 0 (by simp) (by simp)
theorem LR.tail {L : Lay} {v v' : Value} {x x' : List Value} (h : LR L (v :: x) (v' :: x')) : LR L x x' :=
  ⟨by simpa using h.1, fun i h1 h2 => h.2 (i + 1) (by simpa using h1) (by simpa using h2)⟩
theorem LR.cases_cons {L : Lay} {v : Value} {x x' : List Value} (h : LR L (v :: x) x') : ∃ v' y', x' = v' :: y' ∧ VR L v v' ∧ LR L x y' := by
  cases x' with
  | nil => simp [LR] at h
  | cons v' y' => exact ⟨v', y', rfl, h.head, h.tail⟩
theorem LR.cases_nil {L : Lay} {x' : List Value} (h : LR L [] x') : x' = [] := by
  cases x' with
  | nil => rfl
  | cons v' y' => simp [LR] at h
theorem LR.get? {L : Lay} {x x' : List Value} (h : LR L x x') {i : Nat} {v : Value} (hi : x[i]? = some v) : ∃ v', x'[i]? = some v' ∧ VR L v v' := by
  obtain ⟨h1, e⟩ := List.getElem?_eq_some_iff.1 hi
  exact ⟨x'[i]'(h.1 ▸ h1), by simp, e ▸ h.2 i h1 _⟩
theorem LR.append {L : Lay} {x x' y y' : List Value} (h : LR L x x') (k : LR L y y') : LR L (x ++ y) (x' ++ y') := by
  refine ⟨by simp [h.1, k.1], fun i h1 h2 => ?_⟩
  have e := h.1
  simp only [List.getElem_append]
  by_cases c : i < x.length
  · rw [dif_pos c, dif_pos (by omega)]; exact h.2 _ _ _
  · rw [dif_neg c, dif_neg (by omega)]
    have : i - x.length = i - x'.length := by omega
    have := k.2 (i - x.length) (by simp at h1; omega) (by simp at h2; omega)
    simpa [h.1] using this
theorem LR.take {L : Lay} {x x' : List Value} (h : LR L x x') (n : Nat) : LR L (x.take n) (x'.take n) := by
  refine ⟨by simp [h.1], fun i h1 h2 => ?_⟩
  simp only [List.getElem_take]
  exact h.2 _ _ _
theorem LR.drop {L : Lay} {x x' : List Value} (h : LR L x x') (n : Nat) : LR L (x.drop n) (x'.drop n) := by
  refine ⟨by simp [h.1], fun i h1 h2 => ?_⟩
  simp only [List.getElem_drop]
  exact h.2 _ _ _
theorem LR.getD {L : Lay} {x x' : List Value} (h : LR L x x') (i : Nat) {d : Value} (hd : VR L d d) : VR L (x.getD i d) (x'.getD i d) := by
  have e := h.1
  simp only [List.getD_eq_getElem?_getD]
  by_cases c : i < x.length
  · rw [List.getElem?_eq_getElem c, List.getElem?_eq_getElem (by omega)]; exact h.2 _ _ _
  · rw [List.getElem?_eq_none (by omega), List.getElem?_eq_none (by omega)]; exact hd
theorem LR.set {L : Lay} {x x' : List Value} (h : LR L x x') (i : Nat) {v v' : Value} (hv : VR L v v') : LR L (x.set i v) (x'.set i v') := by
  refine ⟨by simp [h.1], fun j h1 h2 => ?_⟩
  simp only [List.getElem_set]
  by_cases c : i = j
  · rw [if_pos c, if_pos c]; exact hv
  · rw [if_neg c, if_neg c]; exact h.2 _ _ _

theorem One.append {x y : List Value} (h : One x) (k : One y) : One (x ++ y) := by
  intro i h1
  simp only [List.getElem_append]
  split
  · exact h _ _
  · exact k _ _
theorem One.take {x : List Value} (h : One x) (n : Nat) : One (x.take n) := fun i h1 => by simp only [List.getElem_take]; exact h _ _
theorem One.drop {x : List Value} (h : One x) (n : Nat) : One (x.drop n) := fun i h1 => by simp only [List.getElem_drop]; exact h _ _
theorem One.nil : One [] := fun i h => by simp at h
theorem One.single {v : Value} (h : v.oneCell' = true) : One [v] := fun i h1 => by
  have : i = 0 := by simpa using h1
  subst this; exact h

theorem vr_undef (L : Lay) : VR L undef undef := .tuple [] [] rfl (fun i h => by simp at h)


theorem oneL_one : ∀ {x : List Value}, oneL x = true → One x
  | [], _ => One.nil
  | v :: vs, h => by
    simp only [oneL, Bool.and_eq_true] at h
    intro i hi
    cases i with
    | zero => exact h.1
    | succ i => exact oneL_one h.2 i (by simpa using hi)
theorem one_oneL : ∀ {x : List Value}, One x → oneL x = true
  | [], _ => rfl
  | v :: vs, h => by
    simp only [oneL, Bool.and_eq_true]
    exact ⟨h 0 (by simp), one_oneL fun i hi => h (i + 1) (by simpa using hi)⟩

/-! ### Values without an address -/
mutual
theorem ground_VR (L : Lay) : ∀ v : Value, ground v = true → VR L v v
  | .bool b, _ => .bool b
  | .int k n, _ => .int k n
  | .float k n, _ => .float k n
  | .complex k n m, _ => .complex k n m
  | .string s, _ => .string s
  | .pointer none, _ => .pnil
  | .pointer (some _), h => by simp [ground] at h
  | .slice none l c, _ => .snil l c
  | .slice (some _) _ _, h => by simp [ground] at h
  | .map none, _ => .mnil
  | .map (some _), h => by simp [ground] at h
  | .chan none, _ => .cnil
  | .chan (some _), h => by simp [ground] at h
  | .func fn ⟨x⟩ ⟨y⟩, h => by
    simp only [ground, Bool.and_eq_true, groundA] at h
    exact .func fn x x y y rfl rfl (groundL_LR L x h.1).2 (groundL_LR L y h.2).2
  | .nilFunc, _ => .nilFunc
  | .iface t v, h => .iface t v v (ground_VR L v (by simpa [ground] using h))
  | .nilIface, _ => .nilIface
  | .agg ⟨x⟩, h => by
    simp only [ground, Bool.and_eq_true, groundA, oneA] at h
    exact .agg x x rfl (groundL_LR L x h.1).2 (oneL_one h.2)
  | .tuple ⟨x⟩, h => by
    simp only [ground, groundA] at h
    exact .tuple x x rfl (groundL_LR L x h).2
theorem groundL_LR (L : Lay) : ∀ x : List Value, groundL x = true → LR L x x
  | [], _ => LR.nil L
  | v :: vs, h => by
    simp only [groundL, Bool.and_eq_true] at h
    exact (groundL_LR L vs h.2).cons (ground_VR L v h.1)
end

theorem groundL_get : ∀ {x : List Value}, groundL x = true → ∀ i (h : i < x.length), ground x[i] = true
  | v :: vs, h, i, hi => by
    simp only [groundL, Bool.and_eq_true] at h
    cases i with
    | zero => exact h.1
    | succ i => exact groundL_get h.2 i (by simpa using hi)

theorem VR.ground_eq {L : Lay} {v v' : Value} (h : VR L v v') : ground v = true → v' = v := by
  induction h with
  | func fn x x' y y' hx hy ex ey ihx ihy =>
    intro g
    simp only [ground, Bool.and_eq_true, groundA] at g
    have e1 : x' = x := List.ext_getElem hx.symm fun i h1 h2 => ihx i h2 h1 (groundL_get g.1 i h2)
    have e2 : y' = y := List.ext_getElem hy.symm fun i h1 h2 => ihy i h2 h1 (groundL_get g.2 i h2)
    rw [e1, e2]
  | agg x x' hx ex e1 ih =>
    intro g
    simp only [ground, Bool.and_eq_true, groundA] at g
    rw [List.ext_getElem hx.symm fun i h1 h2 => ih i h2 h1 (groundL_get g.1 i h2)]
  | tuple x x' hx ex ih =>
    intro g
    simp only [ground, groundA] at g
    rw [List.ext_getElem hx.symm fun i h1 h2 => ih i h2 h1 (groundL_get g i h2)]
  | iface t v v' _ ih => intro g; rw [ih (by simpa [ground] using g)]
  | ptr => intro g; simp [ground] at g
  | slice => intro g; simp [ground] at g
  | map => intro g; simp [ground] at g
  | _ => intro _; rfl

theorem LR.ground_eq {L : Lay} : ∀ {x x' : List Value}, LR L x x' → groundL x = true → x' = x
  | [], x', h, _ => h.cases_nil
  | v :: vs, x', h, g => by
    obtain ⟨v', y', rfl, h1, h2⟩ := h.cases_cons
    simp only [groundL, Bool.and_eq_true] at g
    rw [h1.ground_eq g.1, h2.ground_eq g.2]

theorem VR.oneCell {L : Lay} {v v' : Value} (h : VR L v v') : v'.oneCell' = v.oneCell' := by cases h <;> rfl
theorem LR.one {L : Lay} {x x' : List Value} (h : LR L x x') (k : One x) : One x' := fun i hi => by
  rw [(h.2 i (h.1 ▸ hi) hi).oneCell]; exact k i _

/-- The cells of a value. -/
theorem VR.cells {L : Lay} {v v' : Value} (h : VR L v v') (ht : isTuple v = false) : LR L v.cells.toList v'.cells.toList ∧ One v.cells.toList := by
  cases h with
  | agg x x' hx ex e1 => exact ⟨⟨hx, ex⟩, e1⟩
  | tuple => simp [isTuple] at ht
  | _ => exact ⟨(LR.nil L).cons (by constructor <;> assumption), One.single rfl⟩

theorem ifGround_some {o : Option Value} {v : Value} (h : ifGround o = some v) : o = some v ∧ ground v = true := by
  cases o with
  | none => simp [ifGround] at h
  | some u =>
    simp only [ifGround] at h
    cases g : ground u with
    | true => rw [g] at h; simp at h; subst h; exact ⟨rfl, g⟩
    | false => rw [g] at h; simp at h

end Go.Vm

namespace Go.Vm
open Go.RowKit

/-! ### A heap of objects, and a world -/
/-- What is foreign: the blocks below a number, and others that stay as they are; and which objects are laid nowhere. -/
structure Th where
  n : Nat
  g : Nat → Option Obj
  d : Nat → Bool
instance : Coe Nat Th := ⟨fun n => ⟨n, fun _ => none, fun _ => false⟩⟩
def Th.own (N : Th) (b : Nat) : Prop := N.n ≤ b ∧ N.g b = none
theorem Th.own_nat {n b : Nat} : Th.own n b ↔ n ≤ b := ⟨fun h => h.1, fun h => ⟨h, rfl⟩⟩
def CellsAt (L : Lay) (w : World) (b o : Nat) (cs : List Value) : Prop := ∀ k (h : k < cs.length), ∃ v', w.cell? ⟨b, o + k, none⟩ = some v' ∧ VR L cs[k] v'

def MapRel (L : Lay) (es : List (Value × Value)) (l : List MapEntry) : Prop :=
  es.length = l.length ∧ ∀ i (h : i < es.length) (h' : i < l.length), l[i].key = es[i].1 ∧ ground es[i].1 = true ∧ VR L es[i].2 l[i].val

def spareOf (tl t es : Nat) : Nat := if tl = 1 then t * es else 0

def ObjOK (N : Th) (L : Lay) (w : World) : AObj → Option (Nat × Nat × Nat) → Prop
  | .dead, _ => True
  | .row own tl es cs, some (b, o, t) => CellsAt L w b o cs ∧ One cs ∧ (tl = 0 → t = 0) ∧ (own = false → b < N.n) ∧ (own = true → N.own b ∧ b < w.heap.size ∧ w.there b o (cs.length + spareOf tl t es))
  | .map es, some (b, _, _) => N.own b ∧ ∃ arr clock, w.heap[b]? = some (.map arr clock) ∧ MapRel L es arr.toList
  | .siter s pos, some (b, o, _) => N.own b ∧ o = 0 ∧ w.heap[b]? = some (.stringIter s pos)
  | .unit e, some (b, o, _) => N.own b ∧ o = 0 ∧ ∃ c fr, w.heap[b]? = some (.cells c e fr)
  | _, none => False

def Owns : AObj → Option (Nat × Nat × Nat) → Nat → Nat → Prop
  | .row true tl es cs, some (b, o, t), b', k => b' = b ∧ o ≤ k ∧ k < o + (cs.length + spareOf tl t es)
  | .map _, some (b, _, _), b', _ => b' = b
  | .siter _ _, some (b, _, _), b', _ => b' = b
  | _, _, _, _ => False

/-- Of a block nothing is frozen but what lies behind its cells. -/
def calmObj : Obj → Prop
  | .cells c _ fr => fr.1 = fr.2 ∨ c.size ≤ fr.1
  | _ => True
def Calm (N : Th) (w : World) : Prop := ∀ b o, N.n ≤ b → w.heap[b]? = some o → calmObj o
theorem Calm.alloc {N : Th} {w : World} (h : Calm N w) {o : Obj} (ho : calmObj o) : Calm N (w.alloc o) := by
  intro b o' hb hh
  have h1 : (w.heap.push o)[b]? = some o' := hh
  rw [Array.getElem?_push] at h1
  split at h1
  · simp only [Option.some.injEq] at h1; subst h1; exact ho
  · exact h b o' hb h1
theorem Calm.modify {N : Th} {w w' : World} (h : Calm N w) {c : Nat} {f : Obj → Obj} (hw : w'.heap = w.heap.modify c f) (hf : ∀ o, calmObj o → calmObj (f o)) : Calm N w' := by
  intro b o hb hh
  rw [hw, Array.getElem?_modify] at hh
  split at hh
  · simp only [Option.map_eq_some_iff] at hh
    obtain ⟨o', h1, rfl⟩ := hh
    exact hf _ (h b o' hb h1)
  · exact h b o hb hh
theorem Calm.setCell {N : Th} {w : World} (h : Calm N w) (a : Addr) (u : Value) : Calm N (w.setCell a u) := by
  refine h.modify (c := a.block) (f := fun
      | .cells c elem frozen => .cells (if a.spot.isSome then c else c.setIfInBounds a.off u) elem frozen
      | o => o) rfl ?_
  intro o ho
  cases o <;> first | trivial | skip
  rename_i c e fr
  simp only [calmObj] at ho ⊢
  split <;> simpa using ho
theorem Calm.setCells {N : Th} (b : Nat) : ∀ (vs : List Value) (o : Nat) (w : World), Calm N w → Calm N (w.setCells b o vs)
  | [], o, w, h => h
  | v :: vs, o, w, h => Calm.setCells b vs (o + 1) _ (h.setCell ⟨b, o, none⟩ v)

structure Sim (N : Th) (W0 : World) (L : Lay) (H : Heap) (w : World) : Prop where
  below : Below N.n W0 w
  base : N.n ≤ w.heap.size
  ghost : ∀ b o, N.g b = some o → w.heap[b]? = some o
  void : ∀ id, N.d id = true → id < H.n ∧ L id = none
  fresh : ∀ id, H.n ≤ id → L id = none
  obj : ∀ id, ObjOK N L w (H.get id) (L id)
  apart : ∀ i j b k, i ≠ j → Owns (H.get i) (L i) b k → Owns (H.get j) (L j) b k → False
  calm : Calm N w

/-- The next new block is owned by nobody. -/
theorem Sim.new {N : Th} {W0 : World} {L : Lay} {H : Heap} {w : World} (S : Sim N W0 L H w) : N.own w.heap.size := by
  refine ⟨S.base, ?_⟩
  cases h : N.g w.heap.size with
  | none => rfl
  | some o =>
    obtain ⟨hb, _⟩ := Array.getElem?_eq_some_iff.1 (S.ghost _ _ h)
    omega

theorem MapRel.mono {L L' : Lay} (hl : L.le L') {es : List (Value × Value)} {l : List MapEntry} (h : MapRel L es l) : MapRel L' es l :=
  ⟨h.1, fun i h1 h2 => ⟨(h.2 i h1 h2).1, (h.2 i h1 h2).2.1, ((h.2 i h1 h2).2.2).mono hl⟩⟩

theorem ObjOK.mono {N : Th} {L L' : Lay} {w : World} (hl : L.le L') {o : AObj} {l : Option (Nat × Nat × Nat)} (h : ObjOK N L w o l) : ObjOK N L' w o l := by
  cases o with
  | dead => trivial
  | row own tl es cs =>
    cases l with
    | none => exact h.elim
    | some p =>
      obtain ⟨b, o, t⟩ := p
      exact ⟨fun k hk => let ⟨v', e, r⟩ := h.1 k hk; ⟨v', e, r.mono hl⟩, h.2⟩
  | map es =>
    cases l with
    | none => exact h.elim
    | some p =>
      obtain ⟨b, o, t⟩ := p
      obtain ⟨h1, arr, clock, h2, h3⟩ := h
      exact ⟨h1, arr, clock, h2, h3.mono hl⟩
  | siter s pos =>
    cases l with
    | none => exact h.elim
    | some p => exact h
  | unit e =>
    cases l with
    | none => exact h.elim
    | some p => exact h

theorem cell_lt {w : World} {b k : Nat} {v : Value} (h : w.cell? ⟨b, k, none⟩ = some v) : b < w.heap.size := World.block_lt_of_cell? (w := w) (a := ⟨b, k, none⟩) h

/-- What an object says of a world it says of each world whose blocks are the same as far as the first one's go. -/
theorem ObjOK.world {N : Th} {L : Lay} {w w' : World} (hw : ∀ b, b < w.heap.size → w'.heap[b]? = w.heap[b]?) {o : AObj} {l : Option (Nat × Nat × Nat)}
    (h : ObjOK N L w o l) : ObjOK N L w' o l := by
  have hc : ∀ b k v, w.cell? ⟨b, k, none⟩ = some v → w'.cell? ⟨b, k, none⟩ = some v := fun b k v e => by
    rw [World.cell?_of_block (w := w) (hw b (cell_lt e))]; exact e
  cases o with
  | dead => trivial
  | row own tl es cs =>
    cases l with
    | none => exact h.elim
    | some p =>
      obtain ⟨b, o, t⟩ := p
      obtain ⟨h1, h2, h3, h4, h5⟩ := h
      refine ⟨fun k hk => ?_, h2, h3, h4, fun ho => ⟨(h5 ho).1, by have := hw b (h5 ho).2.1; rw [Array.getElem?_eq_getElem (h5 ho).2.1] at this; exact (Array.getElem?_eq_some_iff.1 this).1, fun j hj => ?_⟩⟩
      · obtain ⟨v', e, r⟩ := h1 k hk
        exact ⟨v', hc _ _ _ e, r⟩
      · obtain ⟨e1, e2⟩ := (h5 ho).2.2 j hj
        obtain ⟨v, e⟩ := Option.isSome_iff_exists.1 e1
        refine ⟨by rw [hc _ _ _ e]; rfl, ?_⟩
        rw [World.frozen?_of_block (w := w) (hw b (cell_lt e))]; exact e2
  | map es =>
    cases l with
    | none => exact h.elim
    | some p =>
      obtain ⟨b, o, t⟩ := p
      obtain ⟨h1, arr, clock, h2, h3⟩ := h
      refine ⟨h1, arr, clock, ?_, h3⟩
      rw [hw b (by obtain ⟨hb, _⟩ := Array.getElem?_eq_some_iff.1 h2; exact hb)]; exact h2
  | siter s pos =>
    cases l with
    | none => exact h.elim
    | some p =>
      obtain ⟨b, o, t⟩ := p
      obtain ⟨h1, h2, h3⟩ := h
      refine ⟨h1, h2, ?_⟩
      rw [hw b (by obtain ⟨hb, _⟩ := Array.getElem?_eq_some_iff.1 h3; exact hb)]; exact h3
  | unit e =>
    cases l with
    | none => exact h.elim
    | some p =>
      obtain ⟨b, o, t⟩ := p
      obtain ⟨h1, h2, c, fr, h3⟩ := h
      refine ⟨h1, h2, c, fr, ?_⟩
      rw [hw b (by obtain ⟨hb, _⟩ := Array.getElem?_eq_some_iff.1 h3; exact hb)]; exact h3

theorem Owns.lt {N : Th} {L : Lay} {w : World} {o : AObj} {l : Option (Nat × Nat × Nat)} (h : ObjOK N L w o l) {b k : Nat} (ho : Owns o l b k) : N.own b ∧ b < w.heap.size := by
  cases o with
  | dead => exact ho.elim
  | row own tl es cs =>
    cases own with
    | false => cases l <;> exact ho.elim
    | true =>
      cases l with
      | none => exact ho.elim
      | some p =>
        obtain ⟨b', o, t⟩ := p
        obtain ⟨rfl, h1, h2⟩ := ho
        obtain ⟨_, _, _, _, h5⟩ := h
        exact ⟨(h5 rfl).1, (h5 rfl).2.1⟩
  | map es =>
    cases l with
    | none => exact ho.elim
    | some p =>
      obtain ⟨b', o, t⟩ := p
      obtain ⟨h1, arr, clock, h2, h3⟩ := h
      have : b = b' := ho
      subst this
      exact ⟨h1, by obtain ⟨hb, _⟩ := Array.getElem?_eq_some_iff.1 h2; exact hb⟩
  | siter s pos =>
    cases l with
    | none => exact ho.elim
    | some p =>
      obtain ⟨b', o, t⟩ := p
      obtain ⟨h1, h2, h3⟩ := h
      have : b = b' := ho
      subst this
      exact ⟨h1, by obtain ⟨hb, _⟩ := Array.getElem?_eq_some_iff.1 h3; exact hb⟩
  | unit e => cases l <;> exact ho.elim

theorem Sim.same_heap {N : Th} {W0 : World} {L : Lay} {H : Heap} {w w' : World} (S : Sim N W0 L H w) (hh : w'.heap = w.heap) (ho : w'.os = w.os) (ht : w'.tape = w.tape) (hp : w'.output = w.output) : Sim N W0 L H w' where
  below := ⟨ho.trans S.below.os, ht.trans S.below.tape, hp.trans S.below.output, by rw [hh]; exact S.below.size, fun k hk => by rw [hh]; exact S.below.block k hk⟩
  base := by rw [hh]; exact S.base
  ghost := fun b o hg => by rw [hh]; exact S.ghost b o hg
  void := S.void
  fresh := S.fresh
  obj := fun id => (S.obj id).world fun b _ => by rw [hh]
  apart := S.apart
  calm := fun b o hb h => S.calm b o hb (by rw [← hh]; exact h)

theorem Sim.drewN {N : Th} {W0 : World} {L : Lay} {H : Heap} {w : World} (S : Sim N W0 L H w) (n : Nat) : Sim N W0 L H (w.drewN n) := S.same_heap rfl rfl rfl rfl
theorem Sim.drew {N : Th} {W0 : World} {L : Lay} {H : Heap} {w : World} (S : Sim N W0 L H w) : Sim N W0 L H w.drew := S.same_heap rfl rfl rfl rfl

/-- Behind new blocks: all objects are as they were. -/
theorem Sim.alloc {N : Th} {W0 : World} {L : Lay} {H : Heap} {w : World} (S : Sim N W0 L H w) (o : Obj) (hcalm : calmObj o) : Sim N W0 L H (w.alloc o) where
  below := S.below.alloc S.base o
  base := by have := S.base; simp; omega
  ghost := fun b o hg => by
    have h := S.ghost b o hg
    obtain ⟨hb, _⟩ := Array.getElem?_eq_some_iff.1 h
    rw [Below.heap_alloc _ _ _ hb]; exact h
  void := S.void
  fresh := S.fresh
  obj := fun id => (S.obj id).world fun b hb => Below.heap_alloc w o b hb
  apart := S.apart
  calm := S.calm.alloc hcalm

theorem Sim.kill {N : Th} {W0 : World} {L : Lay} {H : Heap} {w : World} (S : Sim N W0 L H w) (id : Nat) (hid : id < H.n) : Sim N W0 L (H.set id .dead) w where
  below := S.below
  base := S.base
  ghost := S.ghost
  void := S.void
  calm := S.calm
  fresh := S.fresh
  obj := fun j => by
    rw [Heap.get_set _ _ _ hid]
    split
    · trivial
    · exact S.obj j
  apart := fun i j b k hij h1 h2 => by
    rw [Heap.get_set _ _ _ hid] at h1 h2
    split at h1
    · exact h1
    · split at h2
      · exact h2
      · exact S.apart i j b k hij h1 h2

/-- An object is turned into another one that owns no more. -/
theorem Sim.turn {N : Th} {W0 : World} {L : Lay} {H : Heap} {w : World} (S : Sim N W0 L H w) (id : Nat) (hid : id < H.n) (o : AObj) (ho : ObjOK N L w o (L id))
    (hown : ∀ b k, Owns o (L id) b k → Owns (H.get id) (L id) b k) : Sim N W0 L (H.set id o) w where
  below := S.below
  base := S.base
  ghost := S.ghost
  void := S.void
  calm := S.calm
  fresh := S.fresh
  obj := fun j => by
    rw [Heap.get_set _ _ _ hid]
    split
    · rename_i e; subst e; exact ho
    · exact S.obj j
  apart := fun i j b k hij h1 h2 => by
    rw [Heap.get_set _ _ _ hid] at h1 h2
    split at h1
    · rename_i e1; subst e1
      split at h2
      · rename_i e2; exact hij e2.symm
      · exact S.apart i j b k hij (hown b k h1) h2
    · split at h2
      · rename_i e2; subst e2; exact S.apart i j b k hij h1 (hown b k h2)
      · exact S.apart i j b k hij h1 h2

def upd (L : Lay) (i : Nat) (x : Nat × Nat × Nat) : Lay := fun j => if j = i then some x else L j
theorem upd_le {L : Lay} {i : Nat} {x : Nat × Nat × Nat} (h : L i = none) : L.le (upd L i x) := fun j y e => by
  unfold upd
  by_cases c : j = i
  · subst c; rw [h] at e; cases e
  · rw [if_neg c]; exact e
theorem upd_same (L : Lay) (i : Nat) (x : Nat × Nat × Nat) : upd L i x i = some x := by simp [upd]

/-- A place for a new object. -/
structure Free (N : Th) (L : Lay) (H : Heap) (r : Nat) : Prop where
  void : N.d r = false
  le : r ≤ H.n
  dead : H.get r = .dead
  lay : L r = none
theorem Sim.free {N : Th} {W0 : World} {L : Lay} {H : Heap} {w : World} (S : Sim N W0 L H w) : Free N L H H.n := ⟨by
  cases h : N.d H.n with
  | false => rfl
  | true => have := (S.void _ h).1; omega, Nat.le_refl _, Heap.get_of_ge (Nat.le_refl _), S.fresh _ (Nat.le_refl _)⟩

/-- More is laid at one place alone. -/
structure LeAt (r : Nat) (L L' : Lay) : Prop where
  le : L.le L'
  other : ∀ j, j ≠ r → L' j = L j
theorem LeAt.refl (r : Nat) (L : Lay) : LeAt r L L := ⟨Lay.le_refl L, fun _ _ => rfl⟩
theorem upd_at {L : Lay} {i : Nat} {x : Nat × Nat × Nat} (h : L i = none) : LeAt i L (upd L i x) := ⟨upd_le h, fun j hj => by unfold upd; rw [if_neg hj]⟩

/-- A new object, somewhere where nobody owns anything. -/
theorem Sim.putAt {N : Th} {W0 : World} {L : Lay} {H : Heap} {w : World} (S : Sim N W0 L H w) {r : Nat} (F : Free N L H r) (o : AObj) (x : Nat × Nat × Nat) (ho : ObjOK N (upd L r x) w o (some x))
    (hown : ∀ j b k, Owns o (some x) b k → Owns (H.get j) (L j) b k → False) : Sim N W0 (upd L r x) (H.pushAt r o) w where
  below := S.below
  base := S.base
  ghost := S.ghost
  void := fun id h => by
    have hv := S.void id h
    refine ⟨Nat.lt_of_lt_of_le hv.1 (Heap.le_pushAt H r o), ?_⟩
    unfold upd
    rw [if_neg (fun e => by rw [e, F.void] at h; cases h)]; exact hv.2
  calm := S.calm
  fresh := fun id h => by
    obtain ⟨h1, h2⟩ := Heap.n_pushAt o h F.le
    unfold upd; rw [if_neg h1]; exact S.fresh id h2
  obj := fun j => by
    rw [Heap.get_pushAt F.le]
    by_cases c : j = r
    · rw [if_pos c]; subst c; rw [upd_same]; exact ho
    · rw [if_neg c]
      have : upd L r x j = L j := by unfold upd; rw [if_neg c]
      rw [this]
      exact (S.obj j).mono (upd_le F.lay)
  apart := fun i j b k hij h1 h2 => by
    rw [Heap.get_pushAt F.le] at h1 h2
    by_cases c : i = r
    · rw [if_pos c] at h1; subst c; rw [upd_same] at h1
      have c2 : j ≠ i := fun e => hij e.symm
      rw [if_neg c2] at h2
      have : upd L i x j = L j := by unfold upd; rw [if_neg c2]
      rw [this] at h2
      exact hown j b k h1 h2
    · rw [if_neg c] at h1
      have e1 : upd L r x i = L i := by unfold upd; rw [if_neg c]
      rw [e1] at h1
      by_cases c2 : j = r
      · rw [if_pos c2] at h2; subst c2; rw [upd_same] at h2
        exact hown i b k h2 h1
      · rw [if_neg c2] at h2
        have : upd L r x j = L j := by unfold upd; rw [if_neg c2]
        rw [this] at h2
        exact S.apart i j b k hij h1 h2
theorem Sim.put {N : Th} {W0 : World} {L : Lay} {H : Heap} {w : World} (S : Sim N W0 L H w) (o : AObj) (x : Nat × Nat × Nat) (ho : ObjOK N (upd L H.n x) w o (some x))
    (hown : ∀ j b k, Owns o (some x) b k → Owns (H.get j) (L j) b k → False) : Sim N W0 (upd L H.n x) (H.push o) w := by
  have := S.putAt S.free o x ho hown
  rwa [Heap.pushAt_n] at this

theorem alloc_cell (w : World) (c : Array Value) (e : TypeId) (k : Nat) : (w.alloc (.cells c e)).cell? ⟨w.heap.size, k, none⟩ = c[k]? := World.cell?_alloc_new w c e k
theorem alloc_frozen (w : World) (c : Array Value) (e : TypeId) (k : Nat) : (w.alloc (.cells c e)).frozen? ⟨w.heap.size, k, none⟩ = false := World.frozen?_alloc_new w c e k

/-- A new row. -/
theorem Sim.new_rowAt {N : Th} {W0 : World} {L : Lay} {H : Heap} {w : World} (S : Sim N W0 L H w) {r : Nat} (F : Free N L H r) (c : Array Value) (e : TypeId) (tl es t : Nat) (cs : List Value)
    (hc : ∀ k (h : k < cs.length), ∃ v', c[k]? = some v' ∧ VR L cs[k] v') (h1 : One cs) (hs : cs.length + spareOf tl t es ≤ c.size) (ht : tl = 0 → t = 0) :
    Sim N W0 (upd L r (w.heap.size, 0, t)) (H.pushAt r (.row true tl es cs)) (w.alloc (.cells c e)) := by
  have S' := S.alloc (.cells c e) (.inl rfl)
  have hl := upd_le (x := (w.heap.size, 0, t)) F.lay
  refine S'.putAt F _ _ ⟨fun k hk => ?_, h1, ht, fun h => (by cases h), fun _ => ⟨S.new, by show w.heap.size < (w.heap.push _).size; simp, fun j hj => ?_⟩⟩ ?_
  · obtain ⟨v', e1, r⟩ := hc k hk
    exact ⟨v', by rw [Nat.zero_add, alloc_cell]; exact e1, r.mono hl⟩
  · rw [Nat.zero_add, alloc_cell, alloc_frozen]
    refine ⟨?_, rfl⟩
    rw [Array.getElem?_eq_getElem (by omega)]; rfl
  · intro j b k h2 h3
    have := (Owns.lt (S.obj j) h3).2
    have : b = w.heap.size := h2.1
    omega
theorem Sim.new_row {N : Th} {W0 : World} {L : Lay} {H : Heap} {w : World} (S : Sim N W0 L H w) (c : Array Value) (e : TypeId) (tl es t : Nat) (cs : List Value)
    (hc : ∀ k (h : k < cs.length), ∃ v', c[k]? = some v' ∧ VR L cs[k] v') (h1 : One cs) (hs : cs.length + spareOf tl t es ≤ c.size) (ht : tl = 0 → t = 0) :
    Sim N W0 (upd L H.n (w.heap.size, 0, t)) (H.push (.row true tl es cs)) (w.alloc (.cells c e)) := by
  have := S.new_rowAt S.free c e tl es t cs hc h1 hs ht
  rwa [Heap.pushAt_n] at this

theorem setCells_heap_size (b : Nat) : ∀ (vs : List Value) (o : Nat) (w : World), (w.setCells b o vs).heap.size = w.heap.size
  | [], _, _ => rfl
  | v :: vs, o, w => by
    show ((w.setCell ⟨b, o, none⟩ v).setCells b (o + 1) vs).heap.size = _
    rw [setCells_heap_size]; exact World.size_setCell _ _ _
theorem setCells_heap_other (b : Nat) : ∀ (vs : List Value) (o : Nat) (w : World) (b' : Nat), b' ≠ b → (w.setCells b o vs).heap[b']? = w.heap[b']?
  | [], _, _, _, _ => rfl
  | v :: vs, o, w, b', h => by
    show ((w.setCell ⟨b, o, none⟩ v).setCells b (o + 1) vs).heap[b']? = _
    rw [setCells_heap_other b vs (o + 1) _ b' h]; exact Below.heap_setCell w ⟨b, o, none⟩ v b' h
theorem setCells_below {B : Nat} {w0 : World} (b : Nat) (hb : B ≤ b) : ∀ (vs : List Value) (o : Nat) (w : World), Below B w0 w → Below B w0 (w.setCells b o vs)
  | [], _, _, h => h
  | v :: vs, o, w, h => setCells_below b hb vs (o + 1) _ (h.setCell (p := ⟨b, o, none⟩) hb v)

end Go.Vm

namespace Go.Vm
open Go.RowKit

/-! ### Writes -/
theorem length_writeAt {cs vs : List Value} {off : Nat} (h : off + vs.length ≤ cs.length) : (writeAt cs off vs).length = cs.length := by
  simp [writeAt]; omega
theorem get_writeAt {cs vs : List Value} {off : Nat} (h : off + vs.length ≤ cs.length) (k : Nat) (hk : k < (writeAt cs off vs).length) :
    (writeAt cs off vs)[k] = if hc : off ≤ k ∧ k < off + vs.length then vs[k - off]'(by omega) else cs[k]'(by rw [length_writeAt h] at hk; exact hk) := by
  have hk' : k < cs.length := by rw [length_writeAt h] at hk; exact hk
  have ht : (cs.take off).length = off := by simp; omega
  have hk2 : k < (cs.take off ++ (vs ++ cs.drop (off + vs.length))).length := hk
  show (cs.take off ++ (vs ++ cs.drop (off + vs.length)))[k]'hk2 = _
  by_cases c1 : k < off
  · rw [dif_neg (by omega), List.getElem_append_left (by omega), List.getElem_take]
  · rw [List.getElem_append_right (by omega)]
    simp only [ht]
    by_cases c2 : k < off + vs.length
    · rw [dif_pos (by omega), List.getElem_append_left (by omega)]
    · rw [dif_neg (by omega), List.getElem_append_right (by omega), List.getElem_drop]
      congr 1; omega

theorem One.writeAt {cs vs : List Value} {off : Nat} (h : One cs) (k : One vs) (hb : off + vs.length ≤ cs.length) : One (writeAt cs off vs) := by
  intro i hi
  rw [get_writeAt hb]
  split
  · exact k _ _
  · exact h _ _

theorem setCells_shape (B : Nat) : ∀ (vs : List Value) (off : Nat) (w : World) (b : Nat) (c : Array Value) (e : TypeId) (fr : Nat × Nat), w.heap[b]? = some (.cells c e fr) → ∃ c', (w.setCells B off vs).heap[b]? = some (.cells c' e fr)
  | [], _, _, _, c, _, _, h => ⟨c, h⟩
  | v :: vs, off, w, b, c, e, fr, h => by
    show ∃ c', ((w.setCell ⟨B, off, none⟩ v).setCells B (off + 1) vs).heap[b]? = some (.cells c' e fr)
    have hh : ∃ c2, (w.setCell ⟨B, off, none⟩ v).heap[b]? = some (.cells c2 e fr) := by
      by_cases hb : b = B
      · subst hb
        have : (w.setCell ⟨b, off, none⟩ v).heap = w.heap.modify b (fun
          | .cells c elem frozen => .cells (if (none : Option Nat).isSome then c else c.setIfInBounds off v) elem frozen
          | o => o) := rfl
        rw [this, Array.getElem?_modify, if_pos rfl, h]
        exact ⟨_, rfl⟩
      · exact ⟨c, by rw [Below.heap_setCell w ⟨B, off, none⟩ v b hb]; exact h⟩
    obtain ⟨c2, h2⟩ := hh
    exact setCells_shape B vs (off + 1) _ b c2 e fr h2

/-- What is written where an object owns nothing leaves the object as it is. -/
theorem ObjOK.write {N : Th} {L : Lay} {w : World} {o : AObj} {l : Option (Nat × Nat × Nat)} (h : ObjOK N L w o l) (B off : Nat) (vs : List Value) (hB : N.own B)
    (hcell : ∃ v, w.cell? ⟨B, off, none⟩ = some v ∨ vs = []) (hap : ∀ k, off ≤ k → k < off + vs.length → ¬ Owns o l B k) : ObjOK N L (w.setCells B off vs) o l := by
  have hc : ∀ b k, (b ≠ B ∨ k < off ∨ off + vs.length ≤ k) → (w.setCells B off vs).cell? ⟨b, k, none⟩ = w.cell? ⟨b, k, none⟩ := fun b k hk =>
    World.cell?_setCells_out B vs off w ⟨b, k, none⟩ (fun e _ => by rcases hk with hk | hk; exact absurd e hk; exact hk)
  cases o with
  | dead => trivial
  | row own tl es cs =>
    cases l with
    | none => exact h.elim
    | some p =>
      obtain ⟨b, o, t⟩ := p
      obtain ⟨h1, h2, h3, h4, h5⟩ := h
      have key : ∀ k, k < cs.length + spareOf tl t es → own = true → (b ≠ B ∨ o + k < off ∨ off + vs.length ≤ o + k) := by
        intro k hk ho
        by_cases e : b = B
        · right
          subst e ho
          by_cases c : o + k < off ∨ off + vs.length ≤ o + k
          · exact c
          · exfalso; exact hap (o + k) (by omega) (by omega) ⟨rfl, by omega, by omega⟩
        · exact .inl e
      refine ⟨fun k hk => ?_, h2, h3, h4, fun ho => ⟨(h5 ho).1, by rw [setCells_heap_size]; exact (h5 ho).2.1, fun j hj => ?_⟩⟩
      · obtain ⟨v', e, r⟩ := h1 k hk
        refine ⟨v', ?_, r⟩
        rw [hc]; exact e
        cases own with
        | true => exact key k (by omega) rfl
        | false => exact .inl (by have := h4 rfl; have := hB.1; omega)
      · rw [hc _ _ (key j hj ho), World.frozen?_setCells]
        exact (h5 ho).2.2 j hj
  | map es =>
    cases l with
    | none => exact h.elim
    | some p =>
      obtain ⟨b, o, t⟩ := p
      obtain ⟨h1, arr, clock, h2, h3⟩ := h
      refine ⟨h1, arr, clock, ?_, h3⟩
      cases vs with
      | nil => exact h2
      | cons v vs =>
        rw [setCells_heap_other]
        · exact h2
        · intro e; exact hap off (Nat.le_refl _) (by simp) e.symm
  | siter s pos =>
    cases l with
    | none => exact h.elim
    | some p =>
      obtain ⟨b, o, t⟩ := p
      obtain ⟨h1, h2, h3⟩ := h
      refine ⟨h1, h2, ?_⟩
      cases vs with
      | nil => exact h3
      | cons v vs =>
        rw [setCells_heap_other]
        · exact h3
        · intro e; exact hap off (Nat.le_refl _) (by simp) e.symm
  | unit e =>
    cases l with
    | none => exact h.elim
    | some p =>
      obtain ⟨b, o, t⟩ := p
      obtain ⟨h1, h2, c, fr, h3⟩ := h
      obtain ⟨c', h4⟩ := setCells_shape B vs off w b c e fr h3
      exact ⟨h1, h2, c', fr, h4⟩

/-- A write where nobody owns anything. -/
theorem Sim.write_free {N : Th} {W0 : World} {L : Lay} {H : Heap} {w : World} (S : Sim N W0 L H w) (B off : Nat) (vs : List Value) (hB : N.own B)
    (hcell : ∃ v, w.cell? ⟨B, off, none⟩ = some v ∨ vs = []) (hap : ∀ j k, off ≤ k → k < off + vs.length → ¬ Owns (H.get j) (L j) B k) : Sim N W0 L H (w.setCells B off vs) where
  below := setCells_below B hB.1 vs off w S.below
  base := by rw [setCells_heap_size]; exact S.base
  ghost := fun b o hg => by
    rw [setCells_heap_other B vs off w b (fun e => by rw [e, hB.2] at hg; cases hg)]; exact S.ghost b o hg
  void := S.void
  calm := S.calm.setCells B vs off w
  fresh := S.fresh
  obj := fun j => (S.obj j).write B off vs hB hcell (hap j)
  apart := S.apart

/-- A write into a row. -/
theorem Sim.write {N : Th} {W0 : World} {L : Lay} {H : Heap} {w : World} (S : Sim N W0 L H w) {id tl es : Nat} {cs : List Value} {b o t : Nat} (hg : H.get id = .row true tl es cs) (hl : L id = some (b, o, t))
    (off : Nat) {vs vs' : List Value} (hv : LR L vs vs') (h1 : One vs) (hb : off + vs.length ≤ cs.length) :
    Sim N W0 L (H.set id (.row true tl es (writeAt cs off vs))) (w.setCells b (o + off) vs') := by
  have hid : id < H.n := Heap.lt_of_get hg (by simp)
  have hob := S.obj id
  rw [hg, hl] at hob
  obtain ⟨c1, c2, c3, c4, c5⟩ := hob
  have hlen := hv.1
  have hN := (c5 rfl).1
  have hthere := (c5 rfl).2.2
  have hcs : ∀ k, k < vs'.length → (w.cell? ⟨b, o + off + k, none⟩).isSome = true := fun k hk => by
    have := (hthere (off + k) (by omega)).1
    rwa [show o + (off + k) = o + off + k by omega] at this
  have hcell : ∃ v, w.cell? ⟨b, o + off, none⟩ = some v ∨ vs' = [] := by
    cases hvs : vs' with
    | nil => exact ⟨undef, .inr rfl⟩
    | cons v' vs'' =>
      have := hcs 0 (by rw [hvs]; simp)
      obtain ⟨u, hu⟩ := Option.isSome_iff_exists.1 this
      exact ⟨u, .inl hu⟩
  constructor
  · exact setCells_below b hN.1 vs' (o + off) w S.below
  · rw [setCells_heap_size]; exact S.base
  · intro b2 o2 hg2
    rw [setCells_heap_other b vs' (o + off) w b2 (fun e => by rw [e, hN.2] at hg2; cases hg2)]; exact S.ghost b2 o2 hg2
  · exact S.void
  · exact S.fresh
  · intro j
    rw [Heap.get_set _ _ _ hid]
    by_cases c : j = id
    · rw [if_pos c]; subst c; rw [hl]
      refine ⟨fun k hk => ?_, c2.writeAt h1 hb, c3, c4, fun _ => ⟨hN, by rw [setCells_heap_size]; exact (c5 rfl).2.1, ?_⟩⟩
      · have hk' : k < cs.length := by rw [length_writeAt hb] at hk; exact hk
        rw [get_writeAt hb k hk]
        by_cases cc : off ≤ k ∧ k < off + vs.length
        · rw [dif_pos cc]
          have := World.cell?_setCells_in b vs' (o + off) w hcs (k - off) (by omega)
          rw [show o + off + (k - off) = o + k by omega] at this
          exact ⟨_, this, hv.2 (k - off) (by omega) (by omega)⟩
        · rw [dif_neg cc]
          obtain ⟨v', e, r⟩ := c1 k hk'
          refine ⟨v', ?_, r⟩
          rw [World.cell?_setCells_out b vs' (o + off) w ⟨b, o + k, none⟩ (fun _ _ => by show o + k < o + off ∨ o + off + vs'.length ≤ o + k; omega)]
          exact e
      · rw [length_writeAt hb]
        intro k hk
        obtain ⟨e1, e2⟩ := hthere k hk
        refine ⟨?_, by rw [World.frozen?_setCells]; exact e2⟩
        by_cases cc : off ≤ k ∧ k < off + vs'.length
        · have := World.cell?_setCells_in b vs' (o + off) w hcs (k - off) (by omega)
          rw [show o + off + (k - off) = o + k by omega] at this
          rw [this]; rfl
        · rw [World.cell?_setCells_out b vs' (o + off) w ⟨b, o + k, none⟩ (fun _ _ => by show o + k < o + off ∨ o + off + vs'.length ≤ o + k; omega)]
          exact e1
    · rw [if_neg c]
      refine (S.obj j).write b (o + off) vs' hN hcell fun k k1 k2 k3 => ?_
      refine S.apart j id b k c k3 ?_
      rw [hg, hl]
      exact ⟨rfl, by omega, by omega⟩
  · intro i j b' k hij h2 h3
    have ho : ∀ i', Owns ((H.set id (.row true tl es (writeAt cs off vs))).get i') (L i') b' k → Owns (H.get i') (L i') b' k := by
      intro i' hh
      rw [Heap.get_set _ _ _ hid] at hh
      split at hh
      · rename_i e; subst e; rw [hg]
        rw [hl] at hh ⊢
        obtain ⟨e1, e2, e3⟩ := hh
        rw [length_writeAt hb] at e3
        exact ⟨e1, e2, e3⟩
      · exact hh
    exact S.apart i j b' k hij (ho i h2) (ho j h3)
  · exact S.calm.setCells b vs' (o + off) w

/-- A row that came in, or is owned: its cells, as a world has them. -/
theorem Sim.row {N : Th} {W0 : World} {L : Lay} {H : Heap} {w : World} (S : Sim N W0 L H w) {id tl es : Nat} {own : Bool} {cs : List Value} (hg : H.get id = .row own tl es cs) :
    ∃ b o t cs', L id = some (b, o, t) ∧ w.rangeAt b o cs' ∧ LR L cs cs' ∧ One cs ∧ One cs' ∧ (tl = 0 → t = 0) ∧ (own = true → N.own b ∧ b < w.heap.size ∧ w.there b o (cs.length + spareOf tl t es)) := by
  have hob := S.obj id
  rw [hg] at hob
  cases hl : L id with
  | none => rw [hl] at hob; exact hob.elim
  | some p =>
    obtain ⟨b, o, t⟩ := p
    rw [hl] at hob
    obtain ⟨c1, c2, c3, c4, c5⟩ := hob
    have hex : ∃ cs' : List Value, cs'.length = cs.length ∧ ∀ k (h : k < cs'.length) (h' : k < cs.length), w.cell? ⟨b, o + k, none⟩ = some cs'[k] ∧ VR L cs[k] cs'[k] := by
      refine ⟨(List.range cs.length).map fun k => (w.cell? ⟨b, o + k, none⟩).getD undef, by simp, fun k h h' => ?_⟩
      obtain ⟨v', e, r⟩ := c1 k h'
      simp [e, r]
    obtain ⟨cs', e1, e2⟩ := hex
    refine ⟨b, o, t, cs', rfl, fun j v hv => ?_, ⟨e1.symm, fun k h h' => (e2 k h' h).2⟩, c2, ?_, c3, c5⟩
    · obtain ⟨h1, h2⟩ := List.getElem?_eq_some_iff.1 hv
      rw [← h2]; exact (e2 j h1 (e1 ▸ h1)).1
    · exact LR.one ⟨e1.symm, fun k h h' => (e2 k h' h).2⟩ c2

end Go.Vm
