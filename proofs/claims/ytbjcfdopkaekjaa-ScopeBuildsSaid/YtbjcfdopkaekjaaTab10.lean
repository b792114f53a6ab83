/- What is proved: what a table tells of names: its methods. -/
import Derived.Test.YtbjcfdopkaekjaaRef3
namespace Go.Vm.Scope
open Go Go.Proofs Go.Vm.Parse
set_option maxRecDepth 100000
set_option maxHeartbeats 4000000
set_option linter.unusedSimpArgs false
set_option linter.unusedVariables false
attribute [local simp] repCells_succ writeAt rd_Fr toList_beq gpe gpn spe gse gsn ne_r0 ne_l0 le_s0 ne_r1 ne_l1 lt_s1 le_s1 ne_r2 ne_l2 lt_s2 le_s2 ne_r3 ne_l3 lt_s3 le_s3 ne_r4 ne_l4 lt_s4 le_s4 ne_r5 ne_l5 lt_s5 le_s5 ne_r6 ne_l6 lt_s6 le_s6 ne_r7 ne_l7 lt_s7 le_s7
/-- What a name means, as values. -/
def nmV (o : Option Nm) : Value := (o.map Nm.v).getD zN
def inV (o : Option Int) : Value := .int .i64 (o.getD 0)
theorem inV_eq (o : Option Int) : (o.map vI).getD (.int .i64 0) = inV o := by cases o <;> rfl
theorem nmV_three (o : Option Nm) : ∃ a b c, nmV o = .agg ⟨[.int .i64 a, .int .i64 b, .int .i64 c]⟩ := nm_three o
def localsAt (T : Tab) (i : Int) : List (ByteArray × Int) := if i < 0 then [] else (T.locals[i.toNat]?).getD []
def paramAt (T : Tab) (i : Int) : Int := if i < 0 then 0 else (T.params[i.toNat]?).getD 0
section
variable {E : Hooks} (hE : Plain E)
include hE
theorem c_sGlobal (args : List Value) (H : Heap) : (run Try.prog E).call 25 args H = callB Try.prog E Try.f25 args H := call_B Try.func25 rfl (by decide +kernel) (hE.no _ rfl rfl) args H
theorem c_sProcN (args : List Value) (H : Heap) : (run Try.prog E).call 26 args H = callB Try.prog E Try.f26 args H := call_B Try.func26 rfl (by decide +kernel) (hE.no _ rfl rfl) args H
theorem c_sLocal (args : List Value) (H : Heap) : (run Try.prog E).call 27 args H = callB Try.prog E Try.f27 args H := call_B Try.func27 rfl (by decide +kernel) (hE.no _ rfl rfl) args H
theorem c_sRegion (args : List Value) (H : Heap) : (run Try.prog E).call 28 args H = callB Try.prog E Try.f28 args H := call_B Try.func28 rfl (by decide +kernel) (hE.no _ rfl rfl) args H
theorem c_sParams (args : List Value) (H : Heap) : (run Try.prog E).call 29 args H = callB Try.prog E Try.f29 args H := call_B Try.func29 rfl (by decide +kernel) (hE.no _ rfl rfl) args H
theorem c_sLocals (args : List Value) (H : Heap) : (run Try.prog E).call 30 args H = callB Try.prog E Try.f30 args H := call_B Try.func30 rfl (by decide +kernel) (hE.no _ rfl rfl) args H
theorem c_sCells (args : List Value) (H : Heap) : (run Try.prog E).call 18 args H = callB Try.prog E Try.f18 args H := call_B Try.func18 rfl (by decide +kernel) (hE.no _ rfl rfl) args H
theorem c_sSemas (args : List Value) (H : Heap) : (run Try.prog E).call 21 args H = callB Try.prog E Try.f21 args H := call_B Try.func21 rfl (by decide +kernel) (hE.no _ rfl rfl) args H
theorem c_sTotals (args : List Value) (H : Heap) : (run Try.prog E).call 23 args H = callB Try.prog E Try.f23 args H := call_B Try.func23 rfl (by decide +kernel) (hE.no _ rfl rfl) args H
theorem c_sRegions (args : List Value) (H : Heap) : (run Try.prog E).call 24 args H = callB Try.prog E Try.f24 args H := call_B Try.func24 rfl (by decide +kernel) (hE.no _ rfl rfl) args H
theorem c_CloneC (args : List Value) (H : Heap) : (run Try.prog E).call 58 args H = callB Try.prog E Try.f58 args H := call_B Try.func58 rfl (by decide +kernel) (hE.no _ rfl rfl) args H
theorem c_CloneI (args : List Value) (H : Heap) : (run Try.prog E).call 59 args H = callB Try.prog E Try.f59 args H := call_B Try.func59 rfl (by decide +kernel) (hE.no _ rfl rfl) args H
variable {H : Heap} {col : Nat → Nat} {tid nid pid rid : Nat} {v1 v2 v3 v4 v5 : Value} {T : Tab} (h : RTab H col tid nid pid rid v1 v2 v3 v4 v5 T)
include h
theorem global_run (x : ByteArray) : ∃ H', (run Try.prog E).call 25 [.pointer (some ⟨tid, 0, none⟩), .string x] H = some (.val (.tuple #[nmV (findP x T.names), .bool (findP x T.names).isSome]), H') ∧ Same (fun _ => False) H H' := by
  suffices key : Gives ((run Try.prog E).call 25 [.pointer (some ⟨tid, 0, none⟩), .string x] H) fun o H' => o = .val (.tuple #[nmV (findP x T.names), .bool (findP x T.names).isSome]) ∧ Same (fun _ => False) H H' by
    obtain ⟨o, H', e, rfl, k⟩ := key
    exact ⟨H', e, k⟩
  have lt := h.lt
  have g0 : ∀ o : AObj, (H.push o).get tid = _ := fun o => (Same.push (fun _ => False) H o).at h.obj (by simp) (fun h => h)
  have f1 := fun o : AObj => look_names (H := H.push o) (nid := nid) (l := T.names) ((Same.push (fun _ => False) H o).at h.nm (by simp) (fun h => h)) x
  obtain ⟨a, b, c, e1⟩ := nmV_three (findP x T.names)
  have e1' : ((findP x T.names).map Nm.v).getD zN = _ := e1
  rw [e1'] at f1
  rw [e1]
  rw [c_sGlobal hE, callB, bodyOf]
  simp [Try.f25, g0, f1]
  exact ((Same.push (fun _ => False) H _).then_push _).then_set (by simp) (.inr (by simp)) _
theorem procN_run (x : ByteArray) : ∃ H', (run Try.prog E).call 26 [.pointer (some ⟨tid, 0, none⟩), .string x] H = some (.val (.tuple #[inV (findP x T.procs), .bool (findP x T.procs).isSome]), H') ∧ Same (fun _ => False) H H' := by
  suffices key : Gives ((run Try.prog E).call 26 [.pointer (some ⟨tid, 0, none⟩), .string x] H) fun o H' => o = .val (.tuple #[inV (findP x T.procs), .bool (findP x T.procs).isSome]) ∧ H' = H by
    obtain ⟨o, H', e, rfl, rfl⟩ := key
    exact ⟨_, e, Same.refl _ _⟩
  have g0 := h.obj
  have f1 := look_ints h.pm x
  rw [inV_eq] at f1
  unfold inV at f1 ⊢
  rw [c_sProcN hE, callB, bodyOf]
  simp [Try.f26, g0, f1]
theorem region_run (x : ByteArray) : ∃ H', (run Try.prog E).call 28 [.pointer (some ⟨tid, 0, none⟩), .string x] H = some (.val (.tuple #[inV (findP x T.regions), .bool (findP x T.regions).isSome]), H') ∧ Same (fun _ => False) H H' := by
  suffices key : Gives ((run Try.prog E).call 28 [.pointer (some ⟨tid, 0, none⟩), .string x] H) fun o H' => o = .val (.tuple #[inV (findP x T.regions), .bool (findP x T.regions).isSome]) ∧ H' = H by
    obtain ⟨o, H', e, rfl, rfl⟩ := key
    exact ⟨_, e, Same.refl _ _⟩
  have g0 := h.obj
  have f1 := look_ints h.rm x
  rw [inV_eq] at f1
  unfold inV at f1 ⊢
  rw [c_sRegion hE, callB, bodyOf]
  simp [Try.f28, g0, f1]
theorem look_loc {w : Value} {l : List (ByteArray × Int)} (hl : (w = .map none ∧ l = []) ∨ ∃ id, w = .map (some id) ∧ H.get id = .map (ents vI l)) (x : ByteArray) :
    exLookup Try.prog 102 w (.string x) true H = some (.tuple #[inV (findP x l), .bool (findP x l).isSome]) ∧ exLen Try.prog [102] w H = some (.int .i64 l.length) := by
  have _ := hE
  have _ := h
  rcases hl with ⟨rfl, rfl⟩ | ⟨id, rfl, hg⟩
  · exact ⟨by simp [exLookup, keyKind, findP, inV], by simp [exLen]⟩
  · have := look_ints hg x
    rw [inV_eq] at this
    exact ⟨this, len_ints hg⟩
theorem local_run (i : Int) (x : ByteArray) (hi : T.locals.length ≤ 1000) : ∃ H', (run Try.prog E).call 27 [.pointer (some ⟨tid, 0, none⟩), .int .i64 i, .string x] H = some (.val (.tuple #[inV (findP x (localsAt T i)), .bool (findP x (localsAt T i)).isSome]), H') ∧ Same (fun _ => False) H H' := by
  suffices key : Gives ((run Try.prog E).call 27 [.pointer (some ⟨tid, 0, none⟩), .int .i64 i, .string x] H) fun o H' => o = .val (.tuple #[inV (findP x (localsAt T i)), .bool (findP x (localsAt T i)).isSome]) ∧ H' = H by
    obtain ⟨o, H', e, rfl, rfl⟩ := key
    exact ⟨_, e, Same.refl _ _⟩
  have g0 := h.obj
  obtain ⟨b1, rfl⟩ := repLoc.G_slice h.g1
  rw [c_sLocal hE, callB, bodyOf]
  unfold localsAt
  by_cases h0 : i < 0
  · simp [Try.f27, g0, h0, findP, inV]
  · obtain ⟨n, rfl⟩ : ∃ n : Nat, i = n := ⟨i.toNat, by omega⟩
    rw [if_neg h0, show ((n : Int).toNat) = n from rfl]
    by_cases h1 : n < T.locals.length
    · have h1' : ¬ (T.locals.length : Int) ≤ n := by omega
      obtain ⟨id, tl, cs, e1, _, _, hrow, hcl, hget, hle⟩ := repLoc.G_at h.g1 h1
      cases e1
      rw [List.getElem?_eq_getElem h1, Option.getD_some]
      generalize T.locals[n] = l at *
      simp only [repLoc, Nat.mul_one] at hget hcl hle hrow
      have hw : ∃ w, cs[n]? = some w ∧ ((w = .map none ∧ l = []) ∨ ∃ id, w = .map (some id) ∧ H.get id = .map (ents vI l)) := by
        rcases hget with ⟨e, e'⟩ | ⟨id, e, _, hg⟩
        · exact ⟨.map none, by have := congrArg (fun q => q[0]?) e; simpa using this, .inl ⟨rfl, e'⟩⟩
        · exact ⟨.map (some id), by have := congrArg (fun q => q[0]?) e; simpa using this, .inr ⟨id, rfl, hg⟩⟩
      obtain ⟨w, hw1, hw2⟩ := hw
      have lk := (look_loc hE h hw2 x).1
      have hw3 : cs[n]'(by omega) = w := (List.getElem?_eq_some_iff.1 hw1).2
      have htk : List.take 1 (List.drop n cs) = [w] := by
        rw [List.drop_eq_getElem_cons (by omega), List.take_succ_cons, hw3]; simp
      unfold inV at lk ⊢
      have hww : isTuple w = false ∧ w.cells.toList = [w] := by rcases hw2 with ⟨rfl, _⟩ | ⟨id, rfl, _⟩ <;> exact ⟨rfl, rfl⟩
      simp [Try.f27, g0, h0, h1, h1', hrow, hcl, hle, hw1, hw3, htk, hww, lk]
    · have h1' : (T.locals.length : Int) ≤ n := by omega
      rw [List.getElem?_eq_none (by omega)]
      simp [Try.f27, g0, h0, h1, h1', findP, inV]
theorem params_run (i : Int) : ∃ H', (run Try.prog E).call 29 [.pointer (some ⟨tid, 0, none⟩), .int .i64 i] H = some (.val (.int .i64 (paramAt T i)), H') ∧ Same (fun _ => False) H H' := by
  suffices key : Gives ((run Try.prog E).call 29 [.pointer (some ⟨tid, 0, none⟩), .int .i64 i] H) fun o H' => o = .val (.int .i64 (paramAt T i)) ∧ H' = H by
    obtain ⟨o, H', e, rfl, rfl⟩ := key
    exact ⟨_, e, Same.refl _ _⟩
  have g0 := h.obj
  obtain ⟨b1, rfl⟩ := repInt.G_slice h.g2
  rw [c_sParams hE, callB, bodyOf]
  unfold paramAt
  by_cases h0 : i < 0
  · simp [Try.f29, g0, h0]
  · obtain ⟨n, rfl⟩ : ∃ n : Nat, i = n := ⟨i.toNat, by omega⟩
    rw [if_neg h0, show ((n : Int).toNat) = n from rfl]
    by_cases h1 : n < T.params.length
    · have h1' : ¬ (T.params.length : Int) ≤ n := by omega
      obtain ⟨id, tl, cs, e1, _, _, hrow, hcl, hget, hle⟩ := repInt.G_at h.g2 h1
      cases e1
      rw [List.getElem?_eq_getElem h1, Option.getD_some]
      generalize T.params[n] = l at *
      simp only [repInt, Nat.mul_one] at hget hcl hle hrow
      have hw1 : cs[n]? = some (.int .i64 l) := by have := congrArg (fun q => q[0]?) hget; simpa using this
      have hw3 : cs[n]'(by omega) = .int .i64 l := (List.getElem?_eq_some_iff.1 hw1).2
      simp [Try.f29, g0, h0, h1, h1', hrow, hcl, hle, hw1, hw3, hget]
    · have h1' : (T.params.length : Int) ≤ n := by omega
      rw [List.getElem?_eq_none (by omega)]
      simp [Try.f29, g0, h0, h1, h1']
theorem locals_run (i : Int) : ∃ H', (run Try.prog E).call 30 [.pointer (some ⟨tid, 0, none⟩), .int .i64 i] H = some (.val (.int .i64 (localsAt T i).length), H') ∧ Same (fun _ => False) H H' := by
  suffices key : Gives ((run Try.prog E).call 30 [.pointer (some ⟨tid, 0, none⟩), .int .i64 i] H) fun o H' => o = .val (.int .i64 (localsAt T i).length) ∧ H' = H by
    obtain ⟨o, H', e, rfl, rfl⟩ := key
    exact ⟨_, e, Same.refl _ _⟩
  have g0 := h.obj
  obtain ⟨b1, rfl⟩ := repLoc.G_slice h.g1
  rw [c_sLocals hE, callB, bodyOf]
  unfold localsAt
  by_cases h0 : i < 0
  · simp [Try.f30, g0, h0]
  · obtain ⟨n, rfl⟩ : ∃ n : Nat, i = n := ⟨i.toNat, by omega⟩
    rw [if_neg h0, show ((n : Int).toNat) = n from rfl]
    by_cases h1 : n < T.locals.length
    · have h1' : ¬ (T.locals.length : Int) ≤ n := by omega
      obtain ⟨id, tl, cs, e1, _, _, hrow, hcl, hget, hle⟩ := repLoc.G_at h.g1 h1
      cases e1
      rw [List.getElem?_eq_getElem h1, Option.getD_some]
      generalize T.locals[n] = l at *
      simp only [repLoc, Nat.mul_one] at hget hcl hle hrow
      have hw : ∃ w, cs[n]? = some w ∧ ((w = .map none ∧ l = []) ∨ ∃ id, w = .map (some id) ∧ H.get id = .map (ents vI l)) := by
        rcases hget with ⟨e, e'⟩ | ⟨id, e, _, hg⟩
        · exact ⟨.map none, by have := congrArg (fun q => q[0]?) e; simpa using this, .inl ⟨rfl, e'⟩⟩
        · exact ⟨.map (some id), by have := congrArg (fun q => q[0]?) e; simpa using this, .inr ⟨id, rfl, hg⟩⟩
      obtain ⟨w, hw1, hw2⟩ := hw
      have lk := (look_loc hE h hw2 ByteArray.empty).2
      have hw3 : cs[n]'(by omega) = w := (List.getElem?_eq_some_iff.1 hw1).2
      have htk : List.take 1 (List.drop n cs) = [w] := by
        rw [List.drop_eq_getElem_cons (by omega), List.take_succ_cons, hw3]; simp
      have hww : isTuple w = false ∧ w.cells.toList = [w] := by rcases hw2 with ⟨rfl, _⟩ | ⟨id, rfl, _⟩ <;> exact ⟨rfl, rfl⟩
      simp [Try.f30, g0, h0, h1, h1', hrow, hcl, hle, hw1, hw3, htk, hww, lk]
    · have h1' : (T.locals.length : Int) ≤ n := by omega
      rw [List.getElem?_eq_none (by omega)]
      simp [Try.f30, g0, h0, h1, h1']
theorem regions_run : ∃ H', (run Try.prog E).call 24 [.pointer (some ⟨tid, 0, none⟩)] H = some (.val (.int .i64 T.regions.length), H') ∧ Same (fun _ => False) H H' := by
  suffices key : Gives ((run Try.prog E).call 24 [.pointer (some ⟨tid, 0, none⟩)] H) fun o H' => o = .val (.int .i64 T.regions.length) ∧ H' = H by
    obtain ⟨o, H', e, rfl, rfl⟩ := key
    exact ⟨_, e, Same.refl _ _⟩
  have g0 := h.obj
  have f1 := len_ints h.rm
  rw [c_sRegions hE, callB, bodyOf]
  simp [Try.f24, g0, f1]
end
end Go.Vm.Scope
