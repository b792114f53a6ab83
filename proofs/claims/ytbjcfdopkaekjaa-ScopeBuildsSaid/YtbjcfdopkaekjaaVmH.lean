/- What is proved: a block that stands by itself, hidden from the machine and given to it; no theorem of the program. -/
import Derived.Test.YtbjcfdopkaekjaaVmG
namespace Go.Vm
open Go.RowKit
set_option linter.unusedSimpArgs false
set_option linter.unusedVariables false
variable {P : Program} {N : Th} {W0 : World} {L : Lay} {H : Heap} {w : World}

/-- A number that is laid nowhere besides. -/
def Th.hole (N : Th) (r : Nat) : Th := ⟨N.n, N.g, fun i => N.d i || Nat.beq i r⟩
/-- A block that is foreign besides. -/
def Th.and (N : Th) (b : Nat) (o : Obj) : Th := ⟨N.n, fun k => if k = b then some o else N.g k, N.d⟩
theorem Th.and_own {b k : Nat} {o : Obj} : (N.and b o).own k ↔ k ≠ b ∧ N.own k := by
  unfold Th.own Th.and
  simp only
  constructor
  · rintro ⟨h1, h2⟩
    split at h2
    · cases h2
    · rename_i h; exact ⟨h, h1, h2⟩
  · rintro ⟨h, h1, h2⟩
    exact ⟨h1, by rw [if_neg h]; exact h2⟩

/-- What an object says does not lean on what is foreign, as far as its own block is not. -/
theorem ObjOK.theory {N' : Th} (hn : N'.n = N.n) (hg : ∀ b, b < w.heap.size → N.own b → N'.own b) {o : AObj} {l : Option (Nat × Nat × Nat)} (h : ObjOK N L w o l) : ObjOK N' L w o l := by
  cases o with
  | dead => trivial
  | row own tl es cs =>
    cases l with
    | none => exact h.elim
    | some p =>
      obtain ⟨b, o, t⟩ := p
      obtain ⟨h1, h2, h3, h4, h5⟩ := h
      exact ⟨h1, h2, h3, fun e => by rw [hn]; exact h4 e, fun e => ⟨hg b (h5 e).2.1 (h5 e).1, (h5 e).2⟩⟩
  | map es =>
    cases l with
    | none => exact h.elim
    | some p =>
      obtain ⟨b, o, t⟩ := p
      obtain ⟨h1, arr, clock, h2, h3⟩ := h
      exact ⟨hg b (by obtain ⟨hb, _⟩ := Array.getElem?_eq_some_iff.1 h2; exact hb) h1, arr, clock, h2, h3⟩
  | siter s pos =>
    cases l with
    | none => exact h.elim
    | some p =>
      obtain ⟨b, o, t⟩ := p
      obtain ⟨h1, h2, h3⟩ := h
      exact ⟨hg b (by obtain ⟨hb, _⟩ := Array.getElem?_eq_some_iff.1 h3; exact hb) h1, h2, h3⟩
  | unit e =>
    cases l with
    | none => exact h.elim
    | some p =>
      obtain ⟨b, o, t⟩ := p
      obtain ⟨h1, h2, c, fr, h3⟩ := h
      exact ⟨hg b (by obtain ⟨hb, _⟩ := Array.getElem?_eq_some_iff.1 h3; exact hb) h1, h2, c, fr, h3⟩

/-- A new place, kept free. -/
theorem Sim.dig (S : Sim N W0 L H w) : Sim (N.hole H.n) W0 L (H.push .dead) w where
  below := S.below
  base := S.base
  ghost := S.ghost
  void := fun id h => by
    have h' : (N.d id || Nat.beq id H.n) = true := h
    rw [Bool.or_eq_true] at h'
    rcases h' with h' | h'
    · have := S.void id h'
      exact ⟨by simp; omega, this.2⟩
    · have := Nat.eq_of_beq_eq_true h'
      subst this
      exact ⟨by simp, S.fresh _ (Nat.le_refl _)⟩
  fresh := fun id h => S.fresh id (by simp at h; omega)
  obj := fun id => by
    rw [Heap.get_push]
    split
    · trivial
    · exact (S.obj id).theory rfl fun b _ h => h
  apart := S.push_dead.apart
  calm := S.calm
/-- The place need not be kept any more. -/
theorem Sim.undig {r : Nat} (S : Sim (N.hole r) W0 L H w) : Sim N W0 L H w where
  below := S.below
  base := S.base
  ghost := S.ghost
  void := fun id h => S.void id (by show (N.d id || _) = true; rw [h]; rfl)
  fresh := S.fresh
  obj := fun id => (S.obj id).theory rfl fun b _ h => h
  apart := S.apart
  calm := S.calm

/-- A block is made, and hidden; the place that was kept for it names it. -/
theorem Sim.hide {r : Nat} (S : Sim (N.hole r) W0 L H w) (hr : N.d r = false) (hd : H.get r = .dead) (o : Obj) (ho : calmObj o) :
    Sim (N.and w.heap.size o) W0 (upd L r (w.heap.size, 0, 0)) H (w.alloc o) := by
  have S1 := S.alloc o ho
  have hv := S.void r (by show (N.d r || Nat.beq r r) = true; rw [Nat.beq_refl, Bool.or_true])
  have hle := upd_le (x := (w.heap.size, 0, 0)) hv.2
  refine ⟨S1.below, S1.base, ?_, ?_, ?_, ?_, ?_, S1.calm⟩
  · intro b o' hg
    have hg' : (if b = w.heap.size then some o else N.g b) = some o' := hg
    split at hg'
    · rename_i e
      subst e
      simp only [Option.some.injEq] at hg'
      subst hg'
      show (w.heap.push o)[w.heap.size]? = _
      simp
    · exact S1.ghost b o' hg'
  · intro id h
    have h' : N.d id = true := h
    have := S.void id (by show (N.d id || _) = true; rw [h']; rfl)
    refine ⟨this.1, ?_⟩
    unfold upd
    rw [if_neg (fun e => by rw [e, hr] at h'; cases h')]
    exact this.2
  · intro id h
    unfold upd
    rw [if_neg (by have := hv.1; omega)]
    exact S.fresh id h
  · intro id
    by_cases e : id = r
    · subst e; rw [hd]; trivial
    · have h0 : upd L r (w.heap.size, 0, 0) id = L id := by unfold upd; rw [if_neg e]
      rw [h0]
      have h1 : ObjOK (N.and w.heap.size o) L w (H.get id) (L id) := ObjOK.theory (N := N.hole r) (N' := N.and w.heap.size o) rfl (fun b hb h => Th.and_own.2 ⟨by omega, h⟩) (S.obj id)
      exact (h1.world fun b hb => Below.heap_alloc w o b hb).mono hle
  · intro i j b k hij h1 h2
    have ne : ∀ {i}, Owns (H.get i) (upd L r (w.heap.size, 0, 0) i) b k → Owns (H.get i) (L i) b k := fun {i} h => by
      by_cases e : i = r
      · subst e; rw [hd] at h; exact h.elim
      · unfold upd at h; rw [if_neg e] at h; exact h
    exact S.apart i j b k hij (ne h1) (ne h2)

/-- The hidden block comes out: the object that was kept free is it. -/
theorem Sim.give {r b : Nat} {o : Obj} (S : Sim (N.and b o) W0 L H w) (hb : N.own b) (hr : r < H.n) (hl : L r = some (b, 0, 0)) (hd : H.get r = .dead) (ob : AObj) (hob : ObjOK N L w ob (some (b, 0, 0)))
    (hown : ∀ b' k, Owns ob (some (b, 0, 0)) b' k → b' = b) : Sim N W0 L (H.set r ob) w where
  below := S.below
  base := S.base
  ghost := fun k o' h => S.ghost k o' (by
    show (if k = b then some o else N.g k) = some o'
    rw [if_neg (fun e => by subst e; rw [hb.2] at h; cases h)]; exact h)
  void := S.void
  fresh := S.fresh
  obj := fun id => by
    rw [Heap.get_set _ _ _ hr]
    split
    · rename_i e; subst e; rw [hl]; exact hob
    · exact ObjOK.theory (N := N.and b o) (N' := N) rfl (fun k _ h => (Th.and_own.1 h).2) (S.obj id)
  apart := fun i j k q hij h1 h2 => by
    have ne : ∀ {i}, i ≠ r → Owns ((H.set r ob).get i) (L i) k q → Owns (H.get i) (L i) k q ∧ k ≠ b := fun {i} hi h => by
      rw [Heap.get_set _ _ _ hr, if_neg hi] at h
      exact ⟨h, (Th.and_own.1 (Owns.lt (S.obj i) h).1).1⟩
    have at_ : ∀ {i}, i = r → Owns ((H.set r ob).get i) (L i) k q → k = b := fun {i} hi h => by
      subst hi
      rw [Heap.get_set _ _ _ hr, if_pos rfl, hl] at h
      exact hown k q h
    by_cases e1 : i = r
    · by_cases e2 : j = r
      · exact hij (e1.trans e2.symm)
      · exact (ne e2 h2).2 (at_ e1 h1)
    · by_cases e2 : j = r
      · exact (ne e1 h1).2 (at_ e2 h2)
      · exact S.apart i j k q hij (ne e1 h1).1 (ne e2 h2).1
  calm := S.calm
end Go.Vm

namespace Go.Vm
open Go.RowKit
set_option linter.unusedSimpArgs false
set_option linter.unusedVariables false
variable {P : Program} {N : Th} {W0 : World} {L : Lay} {H : Heap} {w : World}

/-! ### A region in which one variable is made at any time, and filled at the end -/
structure LateP (ops : List Oper) (p d : Nat) (ty : TypeId) (os : Oper) : Prop where
  free : freeOK ops (preOf ops) = true
  last : ops[ops.length - 1]? = some os
  dst : os.dst = none
  guard : os.guard = none
  lt : p + 1 < ops.length
  alloc : ∃ oa, ops[p]? = some oa ∧ oa.op = .alloc ty ∧ oa.dst = some d ∧ oa.guard = none
  other : ∀ i o, i + 1 < ops.length → i ≠ p → ops[i]? = some o → isAlloc o = false ∧ o.guard = none ∧ d ∉ slotsOf o
  behind : ∀ j, j + 1 < ops.length → ((preOf ops).getD (ops.length - 1) 0).testBit j = true

theorem blank_after (o : Oper) : (blank o).after = o.after := by unfold blank; split <;> rfl
theorem blank_eq {o : Oper} (h : isAlloc o = false) : blank o = o := by
  unfold blank isAlloc at *
  split <;> simp_all
theorem lateA_get {ops : List Oper} {i : Nat} (hi : i + 1 < ops.length) {o : Oper} (h : ops[i]? = some o) : (lateA ops)[i]? = some (blank o) := by
  unfold lateA
  rw [List.getElem?_map, List.getElem?_take, if_pos (by omega), h]; rfl
theorem lateA_of {ops : List Oper} {i : Nat} {o' : Oper} (h : (lateA ops)[i]? = some o') : i + 1 < ops.length ∧ ∃ o, ops[i]? = some o ∧ o' = blank o := by
  unfold lateA at h
  rw [List.getElem?_map, List.getElem?_take] at h
  split at h
  · rename_i hi
    cases ho : ops[i]? with
    | none => rw [ho] at h; cases h
    | some o =>
      rw [ho] at h
      simp only [Option.map_some, Option.some.injEq] at h
      exact ⟨by omega, o, rfl, h.symm⟩
  · cases h
theorem lateA_closed {ops : List Oper} {X : Nat → Bool} (h : Closed ops X) : Closed (lateA ops) X := fun i o' ho hX e he hb => by
  obtain ⟨_, o, h1, rfl⟩ := lateA_of ho
  rw [blank_after] at he
  exact h i o h1 hX e he hb
theorem lateA_next {ops : List Oper} {X : Nat → Bool} {i : Nat} {o : Oper} (h : NextOf ops X i o) (hi : i + 1 < ops.length) : NextOf (lateA ops) X i (blank o) :=
  ⟨lateA_closed h.closed, lateA_get hi h.get, h.not, by rw [blank_after]; exact h.after⟩
theorem lateA_len (ops : List Oper) : (lateA ops).length = ops.length - 1 := by simp [lateA]

theorem putA_swap {t : List Value} {d : Nat} {u : Value} {dst : Option Tmp} {v : Value} (h : dst ≠ some d) : putA (putA t (some d) u) dst v = putA (putA t dst v) (some d) u := by
  cases dst with
  | none => rfl
  | some k =>
    simp only [putA]
    exact List.set_comm _ _ (fun e => h (by rw [e]))
theorem putA_ne {t : List Value} {d s : Nat} {u : Value} (h : s ≠ d) : (putA t (some d) u)[s]? = t[s]? := by
  simp only [putA]
  rw [List.getElem?_set_ne (fun e => h e.symm)]

/-- An operation that does not name a slot does the same with another value in it. -/
theorem exOne_skip {call : CallA} {ops : List Oper} {o : Oper} (hg : o.guard = none) {d : Nat} (hd : d ∉ slotsOf o) {t : List Value} {u : Value} : exOne P call ops o (putA t (some d) u) H = exOne P call ops o t H := by
  refine exOne_congr fun s hs => putA_ne (fun e => hd ?_)
  unfold namesA at hs
  rw [hg] at hs
  simp only [List.append_nil] at hs
  rw [← e]; exact hs
theorem dst_slot {o : Oper} {d : Nat} (hd : d ∉ slotsOf o) : o.dst ≠ some d := fun e => hd (by unfold slotsOf; rw [e]; simp)

/-- The object that a new variable is. -/
theorem var_ok {ty : TypeId} {z : Value} (hz : zeroT P ty = some z) {b : Nat} (hb : N.own b) (hw : w.heap[b]? = some (.cells z.cells ty (0, 0))) : ObjOK N L w (varObj P ty z.cells.toList) (some (b, 0, 0)) := by
  obtain ⟨hg, ht, hr⟩ := run_zero hz
  obtain ⟨hc, h1⟩ := (ground_VR L z hg).cells ht
  unfold varObj
  split
  · exact ⟨hb, rfl, _, _, hw⟩
  · have hcell : ∀ k, w.cell? ⟨b, k, none⟩ = z.cells[k]? := fun k => by simp only [World.cell?, hw]; rfl
    refine ⟨fun k hk => ?_, h1, fun _ => rfl, fun e => (by cases e), fun _ => ⟨hb, (Array.getElem?_eq_some_iff.1 hw).1, fun j hj => ?_⟩⟩
    · refine ⟨z.cells.toList[k], ?_, hc.2 k hk hk⟩
      rw [Nat.zero_add, hcell, cells_getElem?]
      exact List.getElem?_eq_getElem _
    · simp only [spareOf] at hj
      have hj' : j < z.cells.toList.length := by simpa using hj
      rw [Nat.zero_add, hcell, cells_getElem?, List.getElem?_eq_getElem hj']
      refine ⟨rfl, ?_⟩
      simp only [World.frozen?, hw]
      simp
theorem var_owns {ty : TypeId} {z : Value} {b b' k : Nat} (h : Owns (varObj P ty z.cells.toList) (some (b, 0, 0)) b' k) : b' = b := by
  unfold varObj at h
  split at h
  · exact h.elim
  · exact h.1
theorem alloc_go {ty : TypeId} {z : Value} (hz : zeroT P ty = some z) (w : World) : (Instr.alloc ty true (.tuple #[])).run P w = .ok (.pointer (some ⟨w.heap.size, 0, none⟩)) (w.alloc (.cells z.cells ty (0, 0))) := by
  obtain ⟨hg, ht, hr⟩ := run_zero hz
  simp [Instr.alloc, hr, newVar, newRow]

theorem late_any {call : CallA} (hc : ∀ N W0, CallOK P N W0 call) {ops : Array Oper} {p d : Nat} {ty : TypeId} {os : Oper} (hp : LateP ops.toList p d ty os) {t : List Value} {H : Heap} {z : Value} (hz : zeroT P ty = some z)
    (hND : N.d H.n = false) {tr : List (List Value × Value)} {hs : List Heap} {t' : List Value} {H1 H2 : Heap} {v2 : Value} (ho : orderOK P (lateA ops.toList) (preOf (lateA ops.toList)) = true)
    (he : exText P call (lateA ops.toList) (lateA ops.toList) t (H.push .dead) = some (tr, hs, t', H1))
    (hst : stableAll P call (lateA ops.toList) (H.push .dead :: hs) (planFrom P (lateA ops.toList) (preOf (lateA ops.toList)) (lateA ops.toList) 0) (lateA ops.toList) tr = true)
    (hd : H1.get H.n = .dead) (hn : H.n < H1.n) (hx : exOp P noCall os.op (putA t' (some d) (.pointer (some ⟨H.n, 0, none⟩))) (H1.set H.n (varObj P ty z.cells.toList)) = some (.val v2, H2))
    (ds : List (FuncId × List Value)) (Q : Exit → Act → World → Prop) {L0 : Lay} (hQ : ∀ x a w, EndR N W0 L0 .normal ⟨putA t' (some d) (.pointer (some ⟨H.n, 0, none⟩)), ds⟩ H2 x a w → Q x a w) :
    ∀ (fuel : Nat) (listed : Array Bool) (a : Act) (w : World), leftOf ops.size listed ≤ fuel → listed.size = ops.size → Closed ops.toList (fun j => listed.getD j false) →
      ((listed.getD (ops.size - 1) false = true ∧ EndR N W0 L0 .normal ⟨putA t' (some d) (.pointer (some ⟨H.n, 0, none⟩)), ds⟩ H2 .normal a w) ∨
       (listed.getD (ops.size - 1) false = false ∧ ∃ L M, L0.le L ∧ (H.push .dead :: hs)[cntW P (fun j => listed.getD j false) (lateA ops.toList) 0]? = some M ∧
        ((listed.getD p false = false ∧ Stands (N.hole H.n) W0 L ⟨slots (fun j => listed.getD j false) (lateA ops.toList) tr 0 t, ds⟩ M a w) ∨
         (listed.getD p false = true ∧ ∃ b, N.own b ∧ L H.n = some (b, 0, 0) ∧
           Stands (N.and b (.cells z.cells ty (0, 0))) W0 L ⟨putA (slots (fun j => listed.getD j false) (lateA ops.toList) tr 0 t) (some d) (.pointer (some ⟨H.n, 0, none⟩)), ds⟩ M a w)))) →
      wpAny P .any ops Q fuel listed a w := by
  obtain ⟨e1, e2, e3, e4⟩ := text_at he 0
  have hsz : ops.toList.length = ops.size := by simp
  have hlast : ∀ (listed : Array Bool), listed.size = ops.size → Region.ready .any ops listed = [] → listed.getD (ops.size - 1) false = true := fun listed hs hr =>
    all_listed_free hs hp.free hr _ _ (Nat.le_refl _) (by have := hp.lt; omega)
  intro fuel
  induction fuel with
  | zero =>
    intro listed a w hf hsz' hcl hI
    have hr : Region.ready .any ops listed = [] := by
      cases hrr : Region.ready .any ops listed with
      | nil => rfl
      | cons i rest =>
        exfalso
        have hm : i ∈ Region.ready .any ops listed := by rw [hrr]; simp
        obtain ⟨h1, o, h2, _⟩ := mem_ready.1 hm
        have hlt : i < ops.size := (Array.getElem?_eq_some_iff.1 h2).1
        have h3 : listed.getD i false = false := by
          rw [Array.getD_eq_getD_getElem?, Array.getElem?_eq_getElem (by omega)] at h1 ⊢; exact h1
        have := leftOf_set hlt (by omega) h3
        omega
    refine ⟨hr, ?_⟩
    rcases hI with ⟨_, h⟩ | ⟨h, _⟩
    · exact hQ _ _ _ h
    · rw [hlast listed hsz' hr] at h; cases h
  | succ fuel ih =>
    intro listed a w hf hsz' hcl hI
    refine ⟨fun hr => ?_, fun i hi => ?_⟩
    · rcases hI with ⟨_, h⟩ | ⟨h, _⟩
      · exact hQ _ _ _ h
      · rw [hlast listed hsz' hr] at h; cases h
    obtain ⟨h1, o, h2, h4⟩ := mem_ready.1 hi
    have hlt : i < ops.size := (Array.getElem?_eq_some_iff.1 h2).1
    have h3 : listed.getD i false = false := by
      rw [Array.getD_eq_getD_getElem?, Array.getElem?_eq_getElem (by omega)] at h1 ⊢; exact h1
    have hnext : NextOf ops.toList (fun j => listed.getD j false) i o := ⟨hcl, by rw [Array.getElem?_toList]; exact h2, h3, fun e he hb => h4 e (Array.mem_toList_iff.1 he) hb⟩
    have hX : ∀ j, (listed.setIfInBounds i true).getD j false = (listed.getD j false || Nat.beq j i) := by
      intro j
      by_cases e : i = j
      · subst e
        rw [Array.getD_eq_getD_getElem?, Array.getElem?_setIfInBounds_self_of_lt (by omega), Nat.beq_refl, Bool.or_true]
        rfl
      · rw [getD_set_ne false e]
        have : Nat.beq j i = false := by
          cases hb : Nat.beq j i with
          | false => rfl
          | true => exact absurd (Nat.eq_of_beq_eq_true hb).symm e
        rw [this, Bool.or_false]
    have hXf : (fun j => (listed.setIfInBounds i true).getD j false) = fun j => listed.getD j false || Nat.beq j i := funext hX
    have hf' := leftOf_set hlt (by omega) h3
    have hcl' : Closed ops.toList (fun j => (listed.setIfInBounds i true).getD j false) := by rw [hXf]; exact hnext.closed'
    rcases hI with ⟨hI, _⟩ | ⟨hI, L, M, hl, hM, hmode⟩
    · -- all is listed already
      exfalso
      have hb := hp.behind i
      rw [hsz] at hb
      by_cases e : i = ops.size - 1
      · rw [e, hI] at h3; cases h3
      · have h5 : listed.getD i false = true := preOf_sound hcl (hb (by omega)) hI
        rw [h3] at h5; cases h5
    by_cases hin : i = ops.size - 1
    · -- the store
      subst hin
      have hlast := hp.last
      rw [hsz, hnext.get] at hlast
      simp only [Option.some.injEq] at hlast
      subst hlast
      have hall : ∀ j, j + 1 < ops.size → listed.getD j false = true := fun j hj => hnext.ahead (by have := hp.behind j (by omega); rwa [hsz] at this) (by omega)
      have hlen := lateA_len ops.toList
      have hpl := hp.lt
      have hsl : slots (fun j => listed.getD j false) (lateA ops.toList) tr 0 t = t' := by
        rw [e3]
        exact slots_ext _ _ _ _ fun k _ h2 => hall k (by omega)
      have hcn : cntW P (fun j => listed.getD j false) (lateA ops.toList) 0 = cntW P (fun _ => true) (lateA ops.toList) 0 := cntW_ext _ _ fun k o hk hw => by
        rw [Nat.zero_add]
        have := (List.getElem?_eq_some_iff.1 hk).1
        exact hall k (by omega)
      rw [hcn, e4] at hM
      simp only [Option.some.injEq] at hM
      subst hM
      rcases hmode with ⟨hpf, _⟩ | ⟨_, b, hb, hL, hS⟩
      · rw [hall p (by omega)] at hpf; cases hpf
      rw [hsl] at hS
      have hobj : ObjOK N L w (varObj P ty z.cells.toList) (some (b, 0, 0)) := var_ok hz hb (hS.sim.ghost b _ (by show (if b = b then _ else _) = _; rw [if_pos rfl]))
      have S' := hS.sim.give hb hn hL hd _ hobj (fun b' k h => var_owns h)
      have hS' : Stands N W0 L ⟨putA t' (some d) (.pointer (some ⟨H.n, 0, none⟩)), ds⟩ _ a w := ⟨S', hS.tmps, hS.defers⟩
      unfold wpOp
      simp only [h2]
      rw [wanted_run hS'.tmps o]
      have hw : wantA ops.toList o (putA t' (some d) (.pointer (some ⟨H.n, 0, none⟩))) = true := by unfold wantA; rw [hp.guard]
      simp only [hw, if_true]
      refine .inl (op_run noCall_ok S' hx hS'.tmps ?_)
      intro L' u w' hl' S2 hv
      refine ih _ _ _ (by omega) (by simpa using hsz') hcl' (.inl ⟨by rw [hX, Nat.beq_refl, Bool.or_true], L', Lay.le_trans hl hl', ?_, trivial⟩)
      have := hS'.put hl' S2 o.dst hv
      rw [hp.dst] at this
      rw [hp.dst]
      exact this
    · have hi1 : i + 1 < ops.toList.length := by omega
      have hnA := lateA_next hnext hi1
      obtain ⟨v, M', k1, k2, k3⟩ := step_next ho he hst hnA hM
      have hI' : (listed.setIfInBounds i true).getD (ops.size - 1) false = false := by
        rw [hX, hI, Bool.false_or]
        cases hb : Nat.beq (ops.size - 1) i with
        | false => rfl
        | true => exact absurd (Nat.eq_of_beq_eq_true hb).symm hin
      by_cases hip : i = p
      · -- the variable
        subst hip
        obtain ⟨oa, g1, g2, g3, g4⟩ := hp.alloc
        rw [hnext.get] at g1
        simp only [Option.some.injEq] at g1
        subst g1
        have hbl : blank o = ⟨none, .assign (.const (.bool false)), o.type, o.pos, o.after, none⟩ := by unfold blank; rw [g2]
        rw [hbl] at k1 k2
        have hMM : M' = M := by
          simp only [exOne, wantA, exOp, evA, ground, val1, Option.map_some] at k1
          simp only [Option.some.injEq, Prod.mk.injEq] at k1
          exact k1.2.symm
        subst hMM
        rcases hmode with ⟨_, hS⟩ | ⟨hpt, _⟩
        · have hv0 := hS.sim.void H.n (by show (N.d H.n || Nat.beq H.n H.n) = true; rw [Nat.beq_refl, Bool.or_true])
          have hdM : M'.get H.n = .dead := by
            have := hS.sim.obj H.n
            rw [hv0.2] at this
            cases hq : M'.get H.n with
            | dead => rfl
            | _ => rw [hq] at this; exact this.elim
          have hle := upd_le (x := (w.heap.size, 0, 0)) hv0.2
          have S1 := hS.sim.hide hND hdM (.cells z.cells ty (0, 0)) (.inl rfl)
          have hown : N.own w.heap.size := hS.sim.new
          unfold wpOp
          simp only [h2]
          rw [wanted_run hS.tmps o]
          have hw : wantA ops.toList o (slots (fun j => listed.getD j false) (lateA ops.toList) tr 0 t) = true := by unfold wantA; rw [g4]
          simp only [hw, if_true]
          refine .inl (wp_valR (by simp only [execOp, g2]) (alloc_go hz w) ?_)
          have hS1 : Stands (N.and w.heap.size (.cells z.cells ty (0, 0))) W0 (upd L H.n (w.heap.size, 0, 0)) ⟨slots (fun j => listed.getD j false) (lateA ops.toList) tr 0 t, ds⟩ M' a (w.alloc (.cells z.cells ty (0, 0))) :=
            ⟨S1, hS.tmps.mono hle, hS.defers.mono hle⟩
          have hv : VR (upd L H.n (w.heap.size, 0, 0)) (.pointer (some ⟨H.n, 0, none⟩)) (.pointer (some ⟨w.heap.size, 0, none⟩)) := by
            have := VR.ptr (L := upd L H.n (w.heap.size, 0, 0)) H.n 0 _ _ _ (upd_same _ _ _)
            simpa using this
          have hS2 := hS1.put (Lay.le_refl _) S1 o.dst hv
          refine ih _ _ _ (by omega) (by simpa using hsz') hcl' (.inr ⟨hI', upd L H.n (w.heap.size, 0, 0), M', Lay.le_trans hl hle, by rw [hXf]; exact k3, .inr ⟨by rw [hX, Nat.beq_refl, Bool.or_true], w.heap.size, hown, upd_same _ _ _, ?_⟩⟩)
          rw [hXf, k2]
          rw [g3] at hS2 ⊢
          exact hS2
        · rw [h3] at hpt; cases hpt
      · -- another operation
        obtain ⟨o1, o2, o3⟩ := hp.other i o hi1 hip hnext.get
        rw [blank_eq o1] at k1 k2
        have hpX : (listed.setIfInBounds i true).getD p false = listed.getD p false := getD_set_ne false hip
        have hwant : ∀ t, wantA ops.toList o t = true := fun t => by unfold wantA; rw [o2]
        have hone : ∀ t K, exOne P call (lateA ops.toList) o t K = some (v, M') → exOp P call o.op t K = some (.val v, M') := fun t K h => by
          simp only [exOne, wantA, o2] at h
          split at h
          · rename_i hq
            simp only [Option.some.injEq, Prod.mk.injEq] at h
            obtain ⟨rfl, rfl⟩ := h
            exact hq
          · cases h
        unfold wpOp
        simp only [h2]
        rcases hmode with ⟨hpf, hS⟩ | ⟨hpt, b, hb, hL, hS⟩
        · rw [wanted_run hS.tmps o]
          simp only [hwant, if_true]
          refine .inl (op_run (hc _ _) hS.sim (hone _ _ k1) hS.tmps ?_)
          intro L' u w' hl' S2 hv
          refine ih _ _ _ (by omega) (by simpa using hsz') hcl' (.inr ⟨hI', L', M', Lay.le_trans hl hl', by rw [hXf]; exact k3, .inl ⟨by rw [hpX]; exact hpf, ?_⟩⟩)
          rw [hXf, k2]
          exact hS.put hl' S2 o.dst hv
        · rw [wanted_run hS.tmps o]
          simp only [hwant, if_true]
          have k1' := k1
          rw [← exOne_skip o2 o3 (u := .pointer (some ⟨H.n, 0, none⟩))] at k1'
          refine .inl (op_run (hc _ _) hS.sim (hone _ _ k1') hS.tmps ?_)
          intro L' u w' hl' S2 hv
          refine ih _ _ _ (by omega) (by simpa using hsz') hcl' (.inr ⟨hI', L', M', Lay.le_trans hl hl', by rw [hXf]; exact k3, .inr ⟨by rw [hpX]; exact hpt, b, hb, hl' _ _ hL, ?_⟩⟩)
          rw [hXf, k2, ← putA_swap (dst_slot o3)]
          exact hS.put hl' S2 o.dst hv
end Go.Vm

namespace Go.Vm
open Go.RowKit
set_option linter.unusedSimpArgs false
set_option linter.unusedVariables false
variable {P : Program} {N : Th} {W0 : World} {L : Lay} {H : Heap} {w : World}

theorem late_ok {ops : List Oper} {q : LateQ} (h : lateAt ops = some q) : LateP ops q.p q.d q.ty q.os := by
  unfold lateAt at h
  split at h
  · rename_i p d ty os h1 h2
    split at h
    · rename_i hk
      simp only [Option.some.injEq] at h
      subst h
      unfold lateOK at hk
      simp only [Bool.and_eq_true, Option.isNone_iff_eq_none] at hk
      obtain ⟨_, _, k1, k2, k3, k4, k5, k6, k7⟩ := hk
      have k1 : p + 1 < ops.length := Nat.le_of_ble_eq_true k1
      refine ⟨k6, h2, k2, k3, k1, ?_, ?_, ?_⟩
      · unfold allocAt at k4
        split at k4
        · rename_i oa ho
          simp only [Bool.and_eq_true, Option.isNone_iff_eq_none] at k4
          obtain ⟨m1, m2, m3⟩ := k4
          refine ⟨oa, ho, ?_, ?_, m3⟩
          · split at m1
            · rename_i ty' hq
              rw [hq, Nat.eq_of_beq_eq_true m1]
            · cases m1
          · split at m2
            · rename_i d' hq
              rw [hq, Nat.eq_of_beq_eq_true m2]
            · cases m2
        · cases k4
      · intro i o hi hne ho
        rw [List.all_eq_true] at k5
        have := k5 i (by rw [List.mem_range]; omega)
        unfold otherAt at this
        rw [ho] at this
        simp only [Bool.or_eq_true, Bool.and_eq_true, Bool.not_eq_true', Option.isNone_iff_eq_none] at this
        rcases this with h | ⟨h1, h2, h3⟩
        · exact absurd (Nat.eq_of_beq_eq_true h) hne
        · exact ⟨h1, h2, fun hm => by rw [List.contains_iff_mem.2 hm] at h3; cases h3⟩
      · intro j hj
        rw [List.all_eq_true] at k7
        exact k7 j (by rw [List.mem_range]; omega)
    · cases h
  · cases h

theorem late2_run (hm : P.follows .mixedOrders = true) {call : CallA} (hc : ∀ N W0, CallOK P N W0 call) {id : Nat} {ops : Array Oper} {q : LateQ} (hq : lateAt ops.toList = some q) {s : St} {H : Heap} {e : ExA} {s' : St} {H' : Heap}
    (h : exLate2 P call ops.toList q s H = some (e, s', H')) (L : Lay) (a : Act) (w : World) (hs : Stands N W0 L s H a w) : (Code.region id ops true).wp P (EndR N W0 L e s' H') a w := by
  have hp := late_ok hq
  unfold exLate2 at h
  split at h
  · rename_i z pl hz hpl
    unfold planOf at hpl
    split at hpl
    · rename_i ho
      simp only [Option.some.injEq] at hpl
      subst hpl
      split at h
      · cases h
      · rename_i tr hs1 t' H1 he
        split at h
        · rename_i hst
          unfold exLast at h
          split at h
          · rename_i hlt hdead
            split at h
            · rename_i v2 H2 hx
              simp only [Option.some.injEq, Prod.mk.injEq] at h
              obtain ⟨rfl, rfl, rfl⟩ := h
              refine wp_region_any hm ?_
              have hf : ∀ j, (Array.replicate ops.size false).getD j false = false := by
                intro j
                rw [Array.getD_eq_getD_getElem?, Array.getElem?_replicate]
                split <;> rfl
              have hfun : (fun j => (Array.replicate ops.size false).getD j false) = fun _ => false := funext hf
              have hND : N.d H.n = false := by
                cases hb : N.d H.n with
                | false => rfl
                | true => have := (hs.sim.void _ hb).1; omega
              refine late_any hc hp hz hND ho he hst hdead (Nat.le_of_ble_eq_true hlt) hx s.ds _ (L0 := L) (fun x a w h => h) ops.size _ a _ ?_ (by simp) ?_ (.inr ⟨hf _, L, H.push .dead, Lay.le_refl L, ?_, .inl ⟨hf _, ?_⟩⟩)
              · unfold leftOf
                have := List.countP_le_length (p := fun j => !(Array.replicate ops.size false).getD j false) (l := List.range ops.size)
                simpa using this
              · intro i o _ hX
                have hX2 : (Array.replicate ops.size false).getD i false = true := hX
                rw [hf] at hX2; cases hX2
              · rw [hfun, cntW_none _ _ fun _ _ => rfl]; rfl
              · rw [hfun, slots_none _ _ _ _ fun _ _ => rfl]
                exact ⟨hs.sim.drew.dig, hs.tmps, hs.defers⟩
            · cases h
          · cases h
        · cases h
    · cases hpl
  · cases h

theorem noplan_run (hm : P.follows .mixedOrders = true) {call : CallA} (hc : ∀ N W0, CallOK P N W0 call) {id : Nat} {ops : Array Oper} {s : St} {H : Heap} {e : ExA} {s' : St} {H' : Heap}
    (h : exNoPlan P call ops.toList s H = some (e, s', H')) (L : Lay) (a : Act) (w : World) (hs : Stands N W0 L s H a w) : (Code.region id ops true).wp P (EndR N W0 L e s' H') a w := by
  unfold exNoPlan at h
  split at h
  · rename_i q hq
    exact late2_run hm hc hq h L a w hs
  · exact free_run hm hc h L a w hs

theorem draw_run (hm : P.follows .mixedOrders = true) {call : CallA} (hc : ∀ N W0, CallOK P N W0 call) : DrawOK P N W0 (exDraw P call) := by
  intro id ops s H e s' H' h L a w hs
  unfold exDraw planOf at h
  split at h
  · exact noplan_run hm hc h L a w hs
  · rename_i pl hpl
    split at hpl
    · rename_i ho
      simp only [Option.some.injEq] at hpl
      subst hpl
      split at h
      · cases h
      · rename_i tr hs1 t' H2 he
        split at h
        · rename_i hst
          simp only [Option.some.injEq, Prod.mk.injEq] at h
          obtain ⟨rfl, rfl, rfl⟩ := h
          refine wp_region_any hm ?_
          have hf : ∀ j, (Array.replicate ops.size false).getD j false = false := by
            intro j
            rw [Array.getD_eq_getD_getElem?, Array.getElem?_replicate]
            split <;> rfl
          have hfun : (fun j => (Array.replicate ops.size false).getD j false) = fun _ => false := funext hf
          refine draw_any (hc N W0) ho he hst s.ds _ (L0 := L) (fun x a w h => h) ops.size _ L H a _ ?_ (by simp) ?_ (Lay.le_refl L) ?_ ?_
          · unfold leftOf
            have := List.countP_le_length (p := fun j => !(Array.replicate ops.size false).getD j false) (l := List.range ops.size)
            simpa using this
          · intro i o _ hX
            have hX2 : (Array.replicate ops.size false).getD i false = true := hX
            rw [hf] at hX2; cases hX2
          · rw [hfun, cntW_none _ _ fun _ _ => rfl]; rfl
          · rw [hfun, slots_none _ _ _ _ fun _ _ => rfl]
            exact ⟨hs.sim.drew, hs.tmps, hs.defers⟩
        · cases h
    · cases hpl

theorem runs_sound (hm : P.follows .mixedOrders = true) {E : Hooks} (hE : ∀ N W0, CallOK P N W0 E.run) (n : Nat) : CallOK P N W0 (runs P E n).call :=
  (runs_ok hE (fun _ hc _ _ => draw_run hm hc) n N W0).call

def noHooks : Hooks := ⟨fun _ => false, fun _ _ _ => none⟩
theorem noHooks_ok : CallOK P N W0 noHooks.run := fun _ _ _ _ _ h => by simp [noHooks] at h

end Go.Vm
