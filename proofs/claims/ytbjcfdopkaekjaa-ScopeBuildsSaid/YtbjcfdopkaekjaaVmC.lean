/- What is proved: what each operation of the abstract machine gives, the model's operation gives; no theorem of the program. -/
import Derived.Test.YtbjcfdopkaekjaaVmB
namespace Go.Vm
open Go.RowKit
set_option linter.unusedSimpArgs false
set_option linter.unusedVariables false
variable {P : Program} {N : Th} {W0 : World} {L : Lay} {H : Heap} {w : World}

theorem run_sizeOf {t : TypeId} {n : Nat} (h : sizeT P t = some n) (w : World) : (sizeOf t).run P w = .ok n w := by
  unfold sizeT at h
  cases hq : P.info? t with
  | none => simp [hq] at h
  | some i => simp [hq] at h; simp [sizeOf, typeInfo, hq, h]
theorem run_isAgg {t : TypeId} {b : Bool} (h : aggT P t = some b) (w : World) : (isAgg t).run P w = .ok b w := by
  unfold aggT at h
  cases hq : P.underlying t with
  | none => simp [hq] at h
  | some d => unfold isAgg; rw [Sem.run_bind, run_underlying hq w]; cases d <;> simp_all
theorem run_zero {t : TypeId} {z : Value} (h : zeroT P t = some z) : ground z = true ∧ isTuple z = false ∧ ∀ w, (zeroValue t).run P w = .ok z w := by
  unfold zeroT at h
  cases hz : ifGround ((P.info? t).bind (·.zero)) with
  | none => simp [hz] at h
  | some u =>
    simp only [hz] at h
    cases ht : isTuple u with
    | true => simp [ht] at h
    | false =>
      simp only [ht, Option.some.injEq] at h; subst h
      obtain ⟨h1, h2⟩ := ifGround_some hz
      refine ⟨h2, ht, fun w => ?_⟩
      cases hq : P.info? t with
      | none => simp [hq] at h1
      | some i => simp [hq] at h1; simp [zeroValue, typeInfo, hq, h1]
theorem run_info {t : TypeId} {b : Nat} (h : bytesT P t = some b) : ∃ i, P.info? t = some i ∧ i.bytes = b := by
  unfold bytesT at h
  cases hq : P.info? t with
  | none => simp [hq] at h
  | some i => simp [hq] at h; exact ⟨i, rfl, h⟩
theorem elemT_und {t e : TypeId} (h : elemT P t = some e) : P.underlying t = some (.slice e) := by
  unfold elemT at h
  cases hq : P.underlying t with
  | none => simp [hq] at h
  | some d => cases d <;> simp [hq] at h; rw [h]

theorem part_run {t : TypeId} {cs cs' : List Value} {off : Nat} {v : Value} (h : partA P t cs off = some v) (hl : LR L cs cs') (h1 : One cs) (w : World) :
    ∃ v', (part t ⟨cs'⟩ off).run P w = .ok v' w ∧ VR L v v' := by
  unfold partA at h
  cases ha : aggT P t with
  | none => simp [ha] at h
  | some b =>
    cases b with
    | true =>
      cases hn : sizeT P t with
      | none => simp [ha, hn] at h
      | some n =>
        simp only [ha, hn] at h
        split at h
        · simp only [Option.some.injEq] at h; subst h
          refine ⟨.agg ⟨(cs'.drop off).take n⟩, ?_, ?_⟩
          · have e : (⟨cs'⟩ : Array Value).extract off (off + n) = ⟨(cs'.drop off).take n⟩ := by
              rw [List.extract_toArray, List.extract_eq_take_drop]; simp
            simp [part, run_isAgg ha, run_sizeOf hn, e]
          · exact .agg _ _ ((hl.drop off).take n).1 ((hl.drop off).take n).2 ((h1.drop off).take n)
        · cases h
    | false =>
      simp only [ha] at h
      obtain ⟨v', e, r⟩ := hl.get? h
      exact ⟨v', by simp [part, run_isAgg ha, e], r⟩

theorem rangeAt_sub {b o : Nat} {cs : List Value} (h : w.rangeAt b o cs) (off n : Nat) : w.rangeAt b (o + off) ((cs.drop off).take n) := fun j v hv => by
  have hj : j < n := by
    have := (List.getElem?_eq_some_iff.1 hv).1
    simp at this; omega
  rw [List.getElem?_take_of_lt hj, List.getElem?_drop] at hv
  have := h (off + j) v hv
  rwa [show o + (off + j) = o + off + j by omega] at this

theorem aggT_isRow {t : TypeId} (h : aggT P t = some true) : ∃ d, P.underlying t = some d ∧ d.isRow = true := by
  unfold aggT at h
  cases hq : P.underlying t with
  | none => simp [hq] at h
  | some d => cases d <;> simp [hq] at h <;> exact ⟨_, rfl, rfl⟩

theorem load_run {t : TypeId} {a a' v : Value} (S : Sim N W0 L H w) (h : exLoad P t a H = some v) (ha : VR L a a') :
    ∃ v', (Instr.loadAt t a').run P w = .ok v' w ∧ VR L v v' := by
  unfold exLoad at h
  split at h
  · rename_i id off
    split at h
    · rename_i own tl es cs hg
      obtain ⟨b, o, t', cs', hl, hr, hlr, h1, h1', _, _⟩ := S.row hg
      cases ha with
      | ptr _ _ b2 o2 t2 hl2 =>
        rw [hl] at hl2
        simp only [Option.some.injEq, Prod.mk.injEq] at hl2
        obtain ⟨rfl, rfl, rfl⟩ := hl2
        unfold partA at h
        cases hagg : aggT P t with
        | none => simp [hagg] at h
        | some bb =>
          cases bb with
          | true =>
            cases hn : sizeT P t with
            | none => simp [hagg, hn] at h
            | some n =>
              simp only [hagg, hn] at h
              split at h
              · rename_i hle
                simp only [Option.some.injEq] at h; subst h
                obtain ⟨d, hu, hd⟩ := aggT_isRow hagg
                have hlen : ((cs'.drop off).take n).length = n := by have := hlr.1; simp; omega
                have := run_loadAt_mid (P := P) w b (o + off) t ((cs'.drop off).take n) d (rangeAt_sub hr off n) hu hd (by rw [hlen]; exact hn)
                exact ⟨_, this, .agg _ _ ((hlr.drop off).take n).1 ((hlr.drop off).take n).2 ((h1.drop off).take n)⟩
              · cases h
          | false =>
            simp only [hagg] at h
            obtain ⟨v', e, r⟩ := hlr.get? h
            have hc := hr off v' e
            refine ⟨v', ?_, r⟩
            simp [Instr.loadAt, Instr.sureAddr, loadVar, run_isAgg hagg, hc]
    · rename_i e hg
      have hob := S.obj id
      rw [hg] at hob
      cases ha with
      | ptr _ _ b o t' hl =>
        unfold partA at h
        cases hagg : aggT P t with
        | none => simp [hagg] at h
        | some bb =>
          cases bb with
          | true =>
            cases hn : sizeT P t with
            | none => simp [hagg, hn] at h
            | some n =>
              simp only [hagg, hn, List.length_nil] at h
              split at h
              · rename_i hle
                simp only [Option.some.injEq] at h; subst h
                obtain ⟨d, hu, hd⟩ := aggT_isRow hagg
                obtain rfl : n = 0 := by omega
                have := run_loadAt_mid (P := P) w b (o + off) t [] d (fun j v hv => by simp at hv) hu hd hn
                exact ⟨_, this, .agg _ _ rfl (fun i h => by simp at h) (fun i h => by simp at h)⟩
              · cases h
          | false => simp [hagg] at h
    · cases h
  · cases h

end Go.Vm

namespace Go.Vm
open Go.RowKit
set_option linter.unusedSimpArgs false
set_option linter.unusedVariables false
variable {P : Program} {N : Th} {W0 : World} {L : Lay} {H : Heap} {w : World}

theorem storeVar_cells {t : TypeId} {n : Nat} (hn : sizeT P t = some n) (b o : Nat) (v : Value) (hlen : v.cells.toList.length = n) (ht : w.there b o n) (h1 : One v.cells.toList) :
    (storeVar t ⟨b, o, none⟩ v).run P w = .ok () (w.setCells b o v.cells.toList) := by
  have := run_storeCells_cells (P := P) b o v.cells.toList 0 w (fun j hj => by simpa using (ht j (by omega)).1) (fun j hj => by simpa using (ht j (by omega)).2)
    (fun u hu => by obtain ⟨i, hi, rfl⟩ := List.getElem_of_mem hu; exact h1 i hi)
  simp only [Nat.add_zero] at this
  have hs : v.cells.size = n := by simpa using hlen
  simp [storeVar, run_sizeOf hn, hs, this]

theorem store_run {t : TypeId} {a a' v v' : Value} {H' : Heap} (S : Sim N W0 L H w) (h : exStore P t a v H = some H') (ha : VR L a a') (hv : VR L v v') :
    ∃ w', (Instr.storeAt t a' v').run P w = .ok () w' ∧ Sim N W0 L H' w' := by
  unfold exStore at h
  split at h
  · rename_i id off
    split at h
    · rename_i tl es cs hg
      obtain ⟨b, o, t', cs', hl, hr, hlr, h1, h1', _, hown⟩ := S.row hg
      cases ha with
      | ptr _ _ b2 o2 t2 hl2 =>
        rw [hl] at hl2
        simp only [Option.some.injEq, Prod.mk.injEq] at hl2
        obtain ⟨rfl, rfl, rfl⟩ := hl2
        cases hn : sizeT P t with
        | none => simp [hn] at h
        | some n =>
          simp only [hn] at h
          split at h
          · rename_i hb
            simp only [Bool.and_eq_true, Bool.not_eq_true'] at hb
            obtain ⟨⟨hb1, hb2⟩, hb3⟩ := hb
            have hb1 : v.cells.toList.length = n := Nat.eq_of_beq_eq_true hb1
            have hb2 : off + n ≤ cs.length := Nat.le_of_ble_eq_true hb2
            simp only [Option.some.injEq] at h; subst h
            obtain ⟨hc, hc1⟩ := hv.cells hb3
            have hlen' : v'.cells.toList.length = n := by rw [← hc.1]; exact hb1
            refine ⟨_, ?_, S.write hg hl off hc hc1 (by omega)⟩
            have ht : w.there b (o + off) n := fun j hj => by
              have := (hown rfl).2.2 (off + j) (by omega)
              rwa [show o + (off + j) = o + off + j by omega] at this
            simp only [Instr.storeAt, Instr.sureAddr, Sem.run_bind, Sem.run_pure, Result.andThen_ok]
            exact storeVar_cells hn b (o + off) v' hlen' ht (hc.one hc1)
          · cases h
    · cases h
  · cases h

theorem cells_getElem? {c : Array Value} (k : Nat) : c[k]? = c.toList[k]? := by simp

/-- A new row of a value's cells. -/
theorem newVar_run {z z' : Value} (S : Sim N W0 L H w) {r : Nat} (F : Free N L H r) (t : TypeId) (hz : VR L z z') (hzt : isTuple z = false) :
    ∃ L' w', (newVar t z').run P w = .ok ⟨w.heap.size, 0, none⟩ w' ∧ LeAt r L L' ∧ Sim N W0 L' (H.pushAt r (varObj P t z.cells.toList)) w' ∧ L' r = some (w.heap.size, 0, 0) := by
  obtain ⟨hc, h1⟩ := hz.cells hzt
  refine ⟨upd L r (w.heap.size, 0, 0), w.alloc (.cells z'.cells t), ?_, upd_at F.lay, ?_, upd_same _ _ _⟩
  · simp [newVar, newRow]
  · unfold varObj
    split
    · have S' := S.alloc (.cells z'.cells t) (.inl rfl)
      refine S'.putAt F _ _ ⟨S.new, rfl, z'.cells, (0, 0), ?_⟩ (fun j b k h => h.elim)
      show (w.heap.push _)[w.heap.size]? = _
      simp
    · refine S.new_rowAt F z'.cells t 0 1 0 z.cells.toList (fun k hk => ?_) h1 (by have := hc.1; simp [spareOf] at *; omega) (fun _ => rfl)
      have := hc.1
      refine ⟨z'.cells.toList[k]'(by omega), by rw [cells_getElem?]; exact List.getElem?_eq_getElem _, hc.2 k hk (by omega)⟩

theorem allocAt_run {t : TypeId} {v : Value} {H' : Heap} (S : Sim N W0 L H w) {r : Nat} (F : Free N L H r) (h : exAllocAt P t r H = some (v, H')) :
    ∃ L' w' v', (Instr.alloc t true (.tuple #[])).run P w = .ok v' w' ∧ LeAt r L L' ∧ Sim N W0 L' H' w' ∧ VR L' v v' := by
  unfold exAllocAt at h
  cases hz : zeroT P t with
  | none => simp [hz] at h
  | some z =>
    simp only [hz, Option.map_some, newVarA, Option.some.injEq, Prod.mk.injEq] at h
    obtain ⟨rfl, rfl⟩ := h
    obtain ⟨hg, ht, hr⟩ := run_zero hz
    obtain ⟨L', w', e1, e2, e3, e4⟩ := newVar_run (P := P) S F t (ground_VR L z hg) ht
    refine ⟨L', w', .pointer (some ⟨w.heap.size, 0, none⟩), ?_, e2, e3, ?_⟩
    · simp [Instr.alloc, hr, e1]
    · have := VR.ptr (L := L') r 0 _ _ _ e4; simpa using this
theorem alloc_run {t : TypeId} {v : Value} {H' : Heap} (S : Sim N W0 L H w) (h : exAlloc P t H = some (v, H')) :
    ∃ L' w' v', (Instr.alloc t true (.tuple #[])).run P w = .ok v' w' ∧ L.le L' ∧ Sim N W0 L' H' w' ∧ VR L' v v' :=
  let ⟨L', w', v', h1, h2, h3⟩ := allocAt_run S S.free h; ⟨L', w', v', h1, h2.le, h3⟩

theorem boxAt_run {t : TypeId} {a a' v : Value} {H' : Heap} (S : Sim N W0 L H w) {r : Nat} (F : Free N L H r) (h : exBoxAt P t a r H = some (v, H')) (ha : VR L a a') :
    ∃ L' w' v', (Instr.box t a').run P w = .ok v' w' ∧ LeAt r L L' ∧ Sim N W0 L' H' w' ∧ VR L' v v' := by
  unfold exBoxAt at h
  split at h
  · cases h
  · rename_i ht
    simp only [newVarA, Option.some.injEq, Prod.mk.injEq] at h
    obtain ⟨rfl, rfl⟩ := h
    obtain ⟨L', w', e1, e2, e3, e4⟩ := newVar_run (P := P) S F t ha ht
    refine ⟨L', w', .pointer (some ⟨w.heap.size, 0, none⟩), ?_, e2, e3, ?_⟩
    · simp [Instr.box, e1]
    · have := VR.ptr (L := L') r 0 _ _ _ e4; simpa using this
theorem box_run {t : TypeId} {a a' v : Value} {H' : Heap} (S : Sim N W0 L H w) (h : exBox P t a H = some (v, H')) (ha : VR L a a') :
    ∃ L' w' v', (Instr.box t a').run P w = .ok v' w' ∧ L.le L' ∧ Sim N W0 L' H' w' ∧ VR L' v v' :=
  let ⟨L', w', v', h1, h2, h3⟩ := boxAt_run S S.free h ha; ⟨L', w', v', h1, h2.le, h3⟩

end Go.Vm

namespace Go.Vm
open Go.RowKit
set_option linter.unusedSimpArgs false
set_option linter.unusedVariables false
variable {P : Program} {N : Th} {W0 : World} {L : Lay} {H : Heap} {w : World}

/-! ### Parts laid into cells -/
theorem writeAt_nil (cs : List Value) (off : Nat) : writeAt cs off [] = cs := by simp [writeAt]
theorem writeAt_cons {cs : List Value} {off : Nat} (v : Value) (vs : List Value) (h : off < cs.length) : writeAt (cs.set off v) (off + 1) vs = writeAt cs off (v :: vs) := by
  unfold writeAt
  rw [List.take_set, List.drop_set_of_lt (by omega)]
  have : (cs.take (off + 1)).set off v = cs.take off ++ [v] := by
    rw [List.take_add_one, List.set_append_right _ _ (by simp; omega)]
    have : (cs.take off).length = off := by simp; omega
    simp [this, List.getElem?_eq_getElem h]
  rw [this]
  simp only [List.append_assoc, List.singleton_append, List.length_cons, List.cons_append, List.nil_append]
  rw [show off + 1 + vs.length = off + (vs.length + 1) by omega]

theorem fold_writeAt (off : Nat) : ∀ (vs : List Value) (k : Nat) (arr : List Value), off + k + vs.length ≤ arr.length →
    (vs.zipIdx k).foldl (fun (cs : Array Value) (p : Value × Nat) => cs.setIfInBounds (off + p.2) p.1) ⟨arr⟩ = ⟨writeAt arr (off + k) vs⟩
  | [], k, arr, _ => by simp [writeAt_nil]
  | v :: vs, k, arr, h => by
    simp only [List.length_cons] at h
    simp only [List.zipIdx_cons, List.foldl_cons, List.setIfInBounds_toArray]
    have := fold_writeAt off vs (k + 1) (arr.set (off + k) v) (by simp; omega)
    rw [this]
    congr 1
    exact writeAt_cons v vs (by omega)

/-- The parts of a value, with their places. -/
def PR (L : Lay) (ps ps' : List (Nat × Value)) : Prop := ps.length = ps'.length ∧ ∀ i (h : i < ps.length) (h' : i < ps'.length), ps'[i].1 = ps[i].1 ∧ VR L ps[i].2 ps'[i].2
theorem PR.cases_cons {p : Nat × Value} {x x' : List (Nat × Value)} (h : PR L (p :: x) x') : ∃ v' y', x' = (p.1, v') :: y' ∧ VR L p.2 v' ∧ PR L x y' := by
  cases x' with
  | nil => simp [PR] at h
  | cons q y' =>
    obtain ⟨h1, h2⟩ := h
    have h0 := h2 0 (by simp) (by simp)
    obtain ⟨i, v'⟩ := q
    simp only [List.getElem_cons_zero] at h0
    obtain ⟨rfl, h0⟩ := h0
    exact ⟨v', y', rfl, h0, by simpa using h1, fun i h3 h4 => by have := h2 (i + 1) (by simpa using h3) (by simpa using h4); simpa using this⟩
theorem PR.nil : PR L [] [] := ⟨rfl, fun i h => by simp at h⟩
theorem PR.cons {i : Nat} {v v' : Value} {x x' : List (Nat × Value)} (hv : VR L v v') (h : PR L x x') : PR L ((i, v) :: x) ((i, v') :: x') := by
  refine ⟨by simp [h.1], fun j h1 h2 => ?_⟩
  cases j with
  | zero => exact ⟨rfl, hv⟩
  | succ j => exact h.2 j (by simpa using h1) (by simpa using h2)

theorem LR.writeAt {cs cs' vs vs' : List Value} (h : LR L cs cs') (k : LR L vs vs') (off : Nat) : LR L (writeAt cs off vs) (writeAt cs' off vs') := by
  unfold Go.Vm.writeAt
  refine (h.take off).append (k.append ?_)
  rw [k.1]; exact h.drop _

theorem fill_run {place : Nat → Option (Nat × Nat)} : ∀ (parts : List (Nat × Value)) {parts' : List (Nat × Value)} {cells cells' cs : List Value},
    fillL place cells parts = some cs → LR L cells cells' → One cells → PR L parts parts' → ∃ cs', Instr.fill place ⟨cells'⟩ parts' = some ⟨cs'⟩ ∧ LR L cs cs' ∧ One cs ∧ cs.length = cells.length
  | [], parts', cells, cells', cs, h, hc, h1, hp => by
    simp only [fillL, Option.some.injEq] at h; subst h
    have : parts' = [] := by
      cases parts' with
      | nil => rfl
      | cons _ _ => simp [PR] at hp
    subst this
    exact ⟨cells', rfl, hc, h1, rfl⟩
  | (i, v) :: parts, parts', cells, cells', cs, h, hc, h1, hp => by
    obtain ⟨v', y', rfl, hv, hp'⟩ := hp.cases_cons
    simp only [fillL] at h
    cases hpl : place i with
    | none => simp [hpl] at h
    | some q =>
      obtain ⟨off, size⟩ := q
      simp only [hpl] at h
      split at h
      · rename_i hb
        simp only [Bool.and_eq_true, Bool.not_eq_true'] at hb
        obtain ⟨⟨hb1, hb2⟩, hb3⟩ := hb
        have hb1 : v.cells.toList.length = size := Nat.eq_of_beq_eq_true hb1
        have hb2 : off + size ≤ cells.length := Nat.le_of_ble_eq_true hb2
        obtain ⟨hvc, hv1⟩ := hv.cells hb3
        have hvl := hvc.1
        have hcl := hc.1
        obtain ⟨cs', e1, e2, e3, e4⟩ := fill_run parts h (hc.writeAt hvc off) (h1.writeAt hv1 (by omega)) hp'
        refine ⟨cs', ?_, e2, e3, by rw [e4, length_writeAt (by omega)]⟩
        have hsz : v'.cells.size = size := by rw [← hb1, hvl]; simp
        have hf : v'.cells.zipIdx.foldl (fun (cs : Array Value) (p : Value × Nat) => cs.setIfInBounds (off + p.2) p.1) ⟨cells'⟩ = ⟨writeAt cells' off v'.cells.toList⟩ := by
          rw [← Array.foldl_toList, Array.toList_zipIdx]
          have := fold_writeAt off v'.cells.toList 0 cells' (by simp; simp at hvl; omega)
          simpa using this
        simp only [Instr.fill, hpl]
        rw [if_neg (by simp [hsz]; omega)]
        rw [← e1]
        congr 1
      · cases h

end Go.Vm

namespace Go.Vm
open Go.RowKit
set_option linter.unusedSimpArgs false
set_option linter.unusedVariables false
variable {P : Program} {N : Th} {W0 : World} {L : Lay} {H : Heap} {w : World}

theorem places_run : ∀ (fs : List Field) (pl : List (Nat × Nat)), placesOf P fs = some pl → ∀ w, (fs.mapM (m := Sem) fun f => do pure (f.offset, ← sizeOf f.type)).run P w = .ok pl w
  | [], pl, h, w => by simp only [placesOf, Option.some.injEq] at h; subst h; rfl
  | f :: fs, pl, h, w => by
    simp only [placesOf] at h
    cases hn : sizeT P f.type with
    | none => simp [hn] at h
    | some n =>
      cases hp : placesOf P fs with
      | none => simp [hn, hp] at h
      | some l =>
        simp only [hn, hp, Option.some.injEq] at h; subst h
        rw [List.mapM_cons]
        have ih := places_run fs l hp w
        simp only [Sem.run_bind, run_sizeOf hn, Result.andThen_ok, Sem.run_pure]
        rw [ih]
        rfl

theorem build_run {t : TypeId} {ps ps' : List (Nat × Value)} {v : Value} (h : exBuild P t ps = some v) (hp : PR L ps ps') (w : World) :
    ∃ v', (Instr.build t ⟨ps'⟩).run P w = .ok v' w ∧ VR L v v' := by
  unfold exBuild at h
  cases hz : zeroT P t with
  | none => simp [hz] at h
  | some z =>
    simp only [hz] at h
    obtain ⟨hg, ht, hr⟩ := run_zero hz
    obtain ⟨hc, h1⟩ := (ground_VR L z hg).cells ht
    cases hu : P.underlying t with
    | none => simp [hu] at h
    | some d =>
      cases d with
      | struct fields =>
        simp only [hu] at h
        cases hpl : placesOf P fields.toList with
        | none => simp [hpl] at h
        | some pl =>
          simp only [hpl, Option.map_eq_some_iff] at h
          obtain ⟨cs, h, rfl⟩ := h
          obtain ⟨cs', e1, e2, e3, _⟩ := fill_run ps h hc h1 hp
          refine ⟨.agg ⟨cs'⟩, ?_, .agg _ _ e2.1 e2.2 e3⟩
          have hm : (fields.mapM (m := Sem) fun f => do pure (f.offset, ← sizeOf f.type)).run P w = .ok pl.toArray w := by
            rw [Array.mapM_eq_mapM_toList]
            simp only [Sem.run_map, places_run _ _ hpl, Result.andThen_ok]
          have e1' : Instr.fill (fun i => pl.toArray[i]?) z.cells ps' = some ⟨cs'⟩ := by
            rw [← e1]; congr 1; funext i; simp
          simp only [Instr.build, Sem.run_bind, hr, run_underlying hu, Result.andThen_ok, hm]
          simp only [e1']
          rfl
      | array len e =>
        simp only [hu] at h
        cases hn : sizeT P e with
        | none => simp [hn] at h
        | some n =>
          simp only [hn, Option.map_eq_some_iff] at h
          obtain ⟨cs, h, rfl⟩ := h
          obtain ⟨cs', e1, e2, e3, _⟩ := fill_run ps h hc h1 hp
          refine ⟨.agg ⟨cs'⟩, ?_, .agg _ _ e2.1 e2.2 e3⟩
          have e1' : Instr.fill (fun i => some (i * n, n)) z.cells ps' = some ⟨cs'⟩ := e1
          simp only [Instr.build, Sem.run_bind, hr, run_underlying hu, Result.andThen_ok, run_sizeOf hn]
          simp only [e1']
          rfl
      | _ => simp [hu] at h

theorem length_repCells (n : Nat) (zs : List Value) : (repCells n zs).length = n * zs.length := by
  simp [repCells, List.length_flatten, List.map_replicate, List.sum_replicate_nat]
theorem get_repCells (zs : List Value) (hz : 0 < zs.length) : ∀ (n k : Nat) (hk : k < (repCells n zs).length), (repCells n zs)[k] = zs[k % zs.length]'(Nat.mod_lt _ hz) := by
  intro n
  unfold repCells
  induction n with
  | zero => intro k h; simp at h
  | succ n ih =>
    intro k h
    simp only [List.replicate_succ, List.flatten_cons] at h ⊢
    by_cases c : k < zs.length
    · rw [List.getElem_append_left c]; congr 1; exact (Nat.mod_eq_of_lt c).symm
    · rw [List.getElem_append_right (by omega), ih (k - zs.length) (by simp at h ⊢; omega)]
      congr 1
      rw [Nat.mod_eq_sub_mod (a := k) (by omega)]
theorem One.rep {zs : List Value} (h : One zs) (n : Nat) : One (repCells n zs) := by
  intro i hi
  rcases Nat.eq_zero_or_pos zs.length with h0 | h0
  · rw [length_repCells, h0] at hi; omega
  · rw [get_repCells zs h0 n i hi]; exact h _ _
theorem LR.rep {zs zs' : List Value} (h : LR L zs zs') (n : Nat) : LR L (repCells n zs) (repCells n zs') := by
  refine ⟨by rw [length_repCells, length_repCells, h.1], fun i h1 h2 => ?_⟩
  have e := h.1
  rcases Nat.eq_zero_or_pos zs.length with h0 | h0
  · rw [length_repCells, h0] at h1; omega
  · rw [get_repCells zs h0 n i h1, get_repCells zs' (by omega) n i h2]
    have : i % zs.length = i % zs'.length := by rw [e]
    have := h.2 (i % zs.length) (Nat.mod_lt _ h0) (by rw [← e]; exact Nat.mod_lt _ h0)
    simpa [e] using this

/-- The model's cells of so many zero values. -/
theorem range_rep (n : Nat) (zs : Array Value) (hz : 0 < zs.size) : (Array.range (n * zs.size)).map (fun i => zs[i % zs.size]!) = ⟨repCells n zs.toList⟩ := by
  apply Array.ext
  · simp [length_repCells]
  · intro i h1 h2
    have hi : i < n * zs.size := by simpa using h1
    simp only [Array.getElem_map, Array.getElem_range]
    have := get_repCells zs.toList (by simpa using hz) n i (by rw [length_repCells]; simpa using hi)
    show _ = (repCells n zs.toList)[i]
    rw [this]
    rw [getElem!_pos zs (i % zs.size) (Nat.mod_lt _ hz)]
    simp

theorem buildSliceAt_run {t : TypeId} {len : Nat} {ps ps' : List (Nat × Value)} {v : Value} {H' : Heap} (S : Sim N W0 L H w) {r : Nat} (F : Free N L H r) (h : exBuildSliceAt P t len ps r H = some (v, H')) (hp : PR L ps ps') :
    ∃ L' w' v', (Instr.buildSlice t len ⟨ps'⟩).run P w = .ok v' w' ∧ LeAt r L L' ∧ Sim N W0 L' H' w' ∧ VR L' v v' := by
  unfold exBuildSliceAt at h
  cases he : elemT P t with
  | none => simp [he] at h
  | some e =>
    simp only [he] at h
    cases hn : sizeT P e with
    | none => simp [hn] at h
    | some n =>
      cases hz : zeroT P e with
      | none => simp [hn, hz] at h
      | some z =>
        simp only [hn, hz] at h
        split at h
        · rename_i hb
          simp only [Bool.and_eq_true, Bool.not_eq_true'] at hb
          obtain ⟨⟨hb1, hb2⟩, hb3⟩ := hb
          have hb1 : len * n ≤ 16777216 := Nat.le_of_ble_eq_true hb1
          have hb2 : z.cells.toList.length = n := Nat.eq_of_beq_eq_true hb2
          have hb3 : n ≠ 0 := Nat.ne_of_beq_eq_false hb3
          simp only [Option.map_eq_some_iff, Prod.mk.injEq] at h
          obtain ⟨cs, h, rfl, rfl⟩ := h
          obtain ⟨hg, ht, hr⟩ := run_zero hz
          obtain ⟨hc, h1⟩ := (ground_VR L z hg).cells ht
          obtain ⟨cs', e1, e2, e3, e4⟩ := fill_run ps h (hc.rep len) (h1.rep len) hp
          have hzs : z.cells.size = n := by simpa using hb2
          refine ⟨upd L r (w.heap.size, 0, 0), w.alloc (.cells ⟨cs'⟩ e), .slice (some ⟨w.heap.size, 0, none⟩) len len, ?_, upd_at F.lay, ?_, ?_⟩
          · have hcells : (Array.range (len * n)).map (fun i => z.cells[i % z.cells.size]!) = ⟨repCells len z.cells.toList⟩ := by
              rw [← hzs]; exact range_rep len z.cells (by omega)
            by_cases hl : len = 0
            · subst hl
              have hnil : repCells 0 z.cells.toList = [] := by simp [repCells]
              rw [hnil] at e1
              simp only [Instr.buildSlice, Sem.run_bind, run_underlying (elemT_und he), Result.andThen_ok, run_sizeOf hn, Nat.zero_mul, if_true, Sem.run_pure]
              rw [if_neg (by omega)]
              simp only [Sem.run_pure, Result.andThen_ok, Array.range_zero', Array.map_empty, Sem.run_bind, e1]
              simp [newRow]
            · simp only [Instr.buildSlice, Sem.run_bind, run_underlying (elemT_und he), Result.andThen_ok, run_sizeOf hn]
              rw [if_neg (by omega), if_neg (Nat.mul_ne_zero hl hb3)]
              simp only [Sem.run_pure, Result.andThen_ok, Sem.run_bind, hr, hcells, e1]
              simp [newRow]
          · refine S.new_rowAt F ⟨cs'⟩ e 0 n 0 cs (fun k hk => ?_) e3 ?_ (fun _ => rfl)
            · have := e2.1
              exact ⟨cs'[k]'(by omega), by rw [cells_getElem?]; exact List.getElem?_eq_getElem _, e2.2 k hk (by omega)⟩
            · have := e2.1
              simp [spareOf] at *; omega
          · have := VR.slice (L := upd L r (w.heap.size, 0, 0)) r 0 len len _ _ _ (upd_same _ _ _)
            simpa using this
        · cases h

theorem buildSlice_run {t : TypeId} {len : Nat} {ps ps' : List (Nat × Value)} {v : Value} {H' : Heap} (S : Sim N W0 L H w) (h : exBuildSlice P t len ps H = some (v, H')) (hp : PR L ps ps') :
    ∃ L' w' v', (Instr.buildSlice t len ⟨ps'⟩).run P w = .ok v' w' ∧ L.le L' ∧ Sim N W0 L' H' w' ∧ VR L' v v' :=
  let ⟨L', w', v', h1, h2, h3⟩ := buildSliceAt_run S S.free h hp; ⟨L', w', v', h1, h2.le, h3⟩

theorem run_asInt (k : IntKind) (n : Int) (w : World) : (asInt (.int k n)).run P w = .ok n w := rfl

theorem makeSlice_run {t : TypeId} {l c l' c' v : Value} {H' : Heap} (S : Sim N W0 L H w) (h : exMakeSlice P t l c H = some (v, H')) (hl : VR L l l') (hc : VR L c c') :
    ∃ L' w' v', (Instr.makeSlice t l' c').run P w = .ok v' w' ∧ L.le L' ∧ Sim N W0 L' H' w' ∧ VR L' v v' := by
  unfold exMakeSlice at h
  split at h
  · rename_i kl l kc c e he
    cases hl
    cases hc
    cases hn : sizeT P e with
    | none => simp [hn] at h
    | some n =>
      cases hz : zeroT P e with
      | none => simp [hn, hz] at h
      | some z =>
        cases hb : bytesT P e with
        | none => simp [hn, hz, hb] at h
        | some b =>
          simp only [hn, hz, hb] at h
          split at h
          · rename_i hh
            obtain ⟨h1, h2, h3, h4, h5, h6⟩ := hh
            simp only [Option.some.injEq, Prod.mk.injEq] at h
            obtain ⟨rfl, rfl⟩ := h
            obtain ⟨hg, ht, hr⟩ := run_zero hz
            obtain ⟨hzc, hz1⟩ := (ground_VR L z hg).cells ht
            obtain ⟨i, hi, hib⟩ := run_info hb
            have hzs : z.cells.size = n := by simpa using h5
            have wl : IntKind.i64.wrap l = l := by rw [IntKind.wrap_i64]; omega
            have wc : IntKind.i64.wrap c = c := by rw [IntKind.wrap_i64]; omega
            refine ⟨upd L H.n (w.heap.size, 0, 0), w.alloc (.cells ⟨repCells c.toNat z.cells.toList⟩ e), .slice (some ⟨w.heap.size, 0, none⟩) l.toNat c.toNat, ?_, upd_le (S.fresh _ (Nat.le_refl _)), ?_, ?_⟩
            · have hcells : (Array.range (c.toNat * n)).map (fun i => z.cells[i % z.cells.size]!) = ⟨repCells c.toNat z.cells.toList⟩ := by
                rw [← hzs]; exact range_rep c.toNat z.cells (by omega)
              simp only [Instr.makeSlice, Sem.run_bind, run_underlying (elemT_und he), Result.andThen_ok, run_asInt, wl, wc, typeInfo, run_program, hi, Sem.run_pure, hib]
              rw [if_neg (by simp; omega)]
              simp only [Sem.run_bind, run_askRoom, Result.andThen_ok, run_sizeOf hn]
              by_cases hc0 : c = 0
              · subst hc0
                have hnil : repCells 0 z.cells.toList = [] := by simp [repCells]
                simp [hnil, newRow, Array.range_zero']
              · rw [if_neg (Nat.mul_ne_zero (by omega : c.toNat ≠ 0) h6)]
                simp only [Sem.run_bind, hr, Sem.run_pure, Result.andThen_ok, hcells]
                simp [newRow]
            · refine S.new_row _ e 0 n 0 _ (fun k hk => ?_) (hz1.rep _) ?_ (fun _ => rfl)
              · exact ⟨(repCells c.toNat z.cells.toList)[k], by rw [cells_getElem?]; exact List.getElem?_eq_getElem _, (hzc.rep c.toNat).2 k hk hk⟩
              · simp [spareOf]
            · have := VR.slice (L := upd L H.n (w.heap.size, 0, 0)) H.n 0 l.toNat c.toNat _ _ _ (upd_same _ _ _)
              simpa using this
          · cases h
  · cases h

end Go.Vm

namespace Go.Vm
open Go.RowKit
set_option linter.unusedSimpArgs false
set_option linter.unusedVariables false
variable {P : Program} {N : Th} {W0 : World} {L : Lay} {H : Heap} {w : World}

theorem byteOf_unit {b o : Nat} {e : TypeId} {c : Array Value} {fr : Nat × Nat} (hb : w.heap[b]? = some (.cells c e fr)) (he : sizeT P e = some 0) : (byteOf ⟨b, o, none⟩).run P w = .ok 0 w := by
  have hs : P.cellsOf e = 0 := by
    unfold Program.cellsOf
    unfold sizeT at he
    rw [he]; rfl
  simp [byteOf, noView, viewAt, World.shape?, hb, hs]

theorem field_run {s : TypeId} {a a' v : Value} {f : Nat} (S : Sim N W0 L H w) (h : exField P s a f H = some v) (ha : VR L a a') :
    ∃ v', (Instr.fieldAt s a' f).run P w = .ok v' w ∧ VR L v v' := by
  unfold exField at h
  split at h
  · rename_i id off fields hu
    cases hf : fields[f]? with
    | none => simp [hf] at h
    | some fl =>
      simp only [hf] at h
      cases hn : sizeT P fl.type with
      | none => simp [hn] at h
      | some n =>
        simp only [hn] at h
        split at h
        · rename_i hb
          have hb : n = 0 := Nat.eq_of_beq_eq_true hb
          subst hb
          unfold unitField at h
          cases hg : H.get id with
          | unit e =>
            rw [hg] at h
            simp only [] at h
            split at h
            · rename_i he hz
              have hz := Nat.eq_of_beq_eq_true hz
              simp only [Option.some.injEq] at h; subst h
              have hob := S.obj id
              rw [hg] at hob
              cases ha with
              | ptr _ _ b o t hl =>
                rw [hl] at hob
                obtain ⟨_, ho, c, fr, hbk⟩ := hob
                obtain rfl : off = 0 := by omega
                have e1 : fl.offset = 0 := by omega
                have e2 : fl.byteOffset = 0 := by omega
                subst ho
                refine ⟨.pointer (some ⟨b, 0, none⟩), ?_, ?_⟩
                · simp [Instr.fieldAt, run_underlying hu, hf, Instr.sureAddr, fieldPlace, run_sizeOf hn, partAt, byteOf_unit hbk he, e1, e2]
                · have := VR.ptr (L := L) id 0 b 0 t hl
                  simpa using this
            · cases h
          | _ => rw [hg] at h; cases h
        · rename_i hb
          have hb : n ≠ 0 := Nat.ne_of_beq_eq_false hb
          simp only [Option.some.injEq] at h; subst h
          cases ha with
          | ptr _ _ b o t hl =>
            refine ⟨.pointer (some ⟨b, o + off + fl.offset, none⟩), ?_, ?_⟩
            · simp [Instr.fieldAt, run_underlying hu, hf, Instr.sureAddr, fieldPlace, run_sizeOf hn, hb, Addr.add_mid]
            · have := VR.ptr (L := L) id (off + fl.offset) b o t hl
              rwa [show o + (off + fl.offset) = o + off + fl.offset by omega] at this
  · cases h

theorem index_run {t : TypeId} {x x' i i' v : Value} (h : exIndex P t x i = some v) (hx : VR L x x') (hi : VR L i i') (w : World) :
    ∃ v', (Instr.indexAt t x' i').run P w = .ok v' w ∧ VR L v v' := by
  unfold exIndex at h
  split at h
  · rename_i k i
    cases hi
    split at h
    · rename_i e id off len c hu
      cases hn : sizeT P e with
      | none => simp [hn] at h
      | some n =>
        simp only [hn] at h
        split at h
        · rename_i hb
          simp only [Option.some.injEq] at h; subst h
          cases hx with
          | slice _ _ _ _ b o t hl =>
            refine ⟨.pointer (some ⟨b, o + off + i.toNat * n, none⟩), ?_, ?_⟩
            · simp [Instr.indexAt, asIntOf, run_underlying hu, hb, run_sizeOf hn, Addr.add_mid]
            · have := VR.ptr (L := L) id (off + i.toNat * n) b o t hl
              rwa [show o + (off + i.toNat * n) = o + off + i.toNat * n by omega] at this
        · cases h
    · rename_i len e id off hu
      cases hn : sizeT P e with
      | none => simp [hn] at h
      | some n =>
        simp only [hn] at h
        split at h
        · rename_i hb
          simp only [Option.some.injEq] at h; subst h
          cases hx with
          | ptr _ _ b o t hl =>
            refine ⟨.pointer (some ⟨b, o + off + i.toNat * n, none⟩), ?_, ?_⟩
            · simp [Instr.indexAt, asIntOf, run_underlying hu, hb, run_sizeOf hn, Addr.add_mid, Instr.sureAddr]
            · have := VR.ptr (L := L) id (off + i.toNat * n) b o t hl
              rwa [show o + (off + i.toNat * n) = o + off + i.toNat * n by omega] at this
        · cases h
    · cases h
  · cases h

/-- Two optional values that stand so to each other. -/
def OR (L : Lay) : Option Value → Option Value → Prop
  | none, none => True
  | some v, some v' => VR L v v'
  | _, _ => False

theorem boundOf_same {d : Nat} {lo lo' : Option Value} {i : Int} (h : boundOf d lo = some i) (ho : OR L lo lo') : lo' = lo := by
  cases lo with
  | none => cases lo' with
    | none => rfl
    | some _ => exact ho.elim
  | some v => cases lo' with
    | none => exact ho.elim
    | some v' =>
      cases v with
      | int k n => cases ho; rfl
      | _ => simp [boundOf] at h

theorem bound_run {d : Nat} {x : Option Value} {i : Int} (h : boundOf d x = some i) (y : Nat) (code : BoundsCode) (h0 : 0 ≤ i) (h1 : i ≤ y) (w : World) :
    (match x with | some v => Instr.sliceBound v y code | none => pure d : Sem Nat).run P w = .ok i.toNat w := by
  cases x with
  | none => simp only [boundOf, Option.some.injEq] at h; subst h; simp
  | some v =>
    cases v with
    | int k n =>
      simp only [boundOf, Option.some.injEq] at h; subst h
      have hh : 0 ≤ n ∧ n ≤ (y : Int) := ⟨h0, h1⟩
      simp [Instr.sliceBound, asIntOf, hh]
    | _ => simp [boundOf] at h

/-- The bounds of a slice without a third index. -/
theorem bounds2_run {isS : Bool} {len cap : Nat} {lo hi : Option Value} {l h : Int} (e1 : boundOf 0 lo = some l) (e2 : boundOf len hi = some h) (h0 : 0 ≤ l) (h1 : l ≤ h) (h2 : h ≤ cap) (w : World) :
    (Instr.sliceBounds isS len cap lo hi none).run P w = .ok (l.toNat, h.toNat, cap) w := by
  have hb1 := bound_run (P := P) e1 h.toNat .sliceB h0 (by omega) w
  have hb2 := bound_run (P := P) e2 cap (if isS then BoundsCode.sliceAcap else BoundsCode.sliceAlen) (by omega) h2 w
  unfold Instr.sliceBounds
  cases hi with
  | none =>
    simp only [boundOf, Option.some.injEq] at e2
    subst e2
    simp only [Sem.run_bind, Sem.run_pure, Result.andThen_ok]
    cases lo with
    | none => simp only [boundOf, Option.some.injEq] at e1; subst e1; simp
    | some v => simp only [Int.toNat_natCast] at hb1; simp [Sem.run_bind, hb1]
  | some v2 =>
    simp only at hb2
    simp only [Sem.run_bind, Sem.run_pure, Result.andThen_ok, hb2]
    cases lo with
    | none => simp only [boundOf, Option.some.injEq] at e1; subst e1; simp
    | some v => simp [Sem.run_bind, hb1]

theorem bounds3_run {isS : Bool} {len cap : Nat} {lo hi : Option Value} {k : IntKind} {l h m : Int} (e1 : boundOf 0 lo = some l) (e2 : boundOf len hi = some h) (e3 : hi ≠ none) (h0 : 0 ≤ l) (h1 : l ≤ h) (h2 : h ≤ m) (h3 : m ≤ cap) (w : World) :
    (Instr.sliceBounds isS len cap lo hi (some (.int k m))).run P w = .ok (l.toNat, h.toNat, m.toNat) w := by
  have hb1 := bound_run (P := P) e1 h.toNat .slice3C h0 (by omega) w
  have hb2 := bound_run (P := P) e2 m.toNat BoundsCode.slice3B (by omega) (by omega) w
  unfold Instr.sliceBounds
  have hm : (Instr.sliceBound (.int k m) cap (if isS then BoundsCode.slice3Acap else BoundsCode.slice3Alen)).run P w = .ok m.toNat w := by
    have hh : 0 ≤ m ∧ m ≤ (cap : Int) := ⟨by omega, h3⟩
    simp [Instr.sliceBound, asIntOf, hh]
  cases hi with
  | none => exact absurd rfl e3
  | some v2 =>
    simp only at hb2
    simp only [Sem.run_bind, hm, Sem.run_pure, Result.andThen_ok, hb2]
    cases lo with
    | none => simp only [boundOf, Option.some.injEq] at e1; subst e1; simp
    | some v => simp [Sem.run_bind, hb1]

end Go.Vm

namespace Go.Vm
open Go.RowKit
set_option linter.unusedSimpArgs false
set_option linter.unusedVariables false
variable {P : Program} {N : Th} {W0 : World} {L : Lay} {H : Heap} {w : World}

/-- The last bound of a slice. -/
def LastBound (mx : Option Value) (cap : Nat) (h : Int) (m : Nat) (hi : Option Value) : Prop :=
  (mx = none ∧ m = cap ∧ h ≤ cap) ∨ (∃ k mi, mx = some (.int k mi) ∧ m = mi.toNat ∧ h ≤ mi ∧ mi ≤ cap ∧ hi ≠ none)

theorem cut_run {id off len cap n : Nat} {lo hi mx : Option Value} {v : Value} {H' : Heap} {b o t : Nat} (S : Sim N W0 L H w) (h : cutA id off len cap n lo hi mx H = some (v, H')) (hl : L id = some (b, o, t)) :
    ∃ L' l hh m, L.le L' ∧ Sim N W0 L' H' w ∧ boundOf 0 lo = some l ∧ boundOf len hi = some hh ∧ 0 ≤ l ∧ l ≤ hh ∧ LastBound mx (cap + t) hh m hi ∧
      VR L' v (.slice (some (if m = l.toNat then ⟨b, o + off, none⟩ else ⟨b, o + off + l.toNat * n, none⟩)) (hh.toNat - l.toNat) (m - l.toNat)) := by
  unfold cutA at h
  cases e1 : boundOf 0 lo with
  | none => simp [e1] at h
  | some l =>
    cases e2 : boundOf len hi with
    | none => simp [e1, e2] at h
    | some hh =>
      simp only [e1, e2] at h
      split at h
      · rename_i l2 h2 own tl es cs q1 q2 hg
        simp only [Option.some.injEq] at q1 q2
        subst q1 q2
        obtain ⟨b', o', t', cs', hl', hr, hlr, hone, hone', ht, hown⟩ := S.row hg
        rw [hl] at hl'
        simp only [Option.some.injEq, Prod.mk.injEq] at hl'
        obtain ⟨rfl, rfl, rfl⟩ := hl'
        cases mx with
        | some m =>
          simp only at h
          cases m with
          | int k m =>
            cases tl with
            | zero =>
              cases hi with
              | none => simp at h
              | some hv =>
                simp only at h
                split at h
                · rename_i hb
                  obtain ⟨b0, b1, b2, b3⟩ := hb
                  simp only [Option.some.injEq, Prod.mk.injEq] at h
                  obtain ⟨rfl, rfl⟩ := h
                  have ht0 := ht rfl
                  subst ht0
                  refine ⟨L, l, hh, m.toNat, Lay.le_refl L, S, rfl, rfl, b0, b1, .inr ⟨k, m, rfl, rfl, b2, by omega, by simp⟩, ?_⟩
                  have := VR.slice (L := L) id (if m = l then off else off + l.toNat * n) (hh.toNat - l.toNat) (m.toNat - l.toNat) b o 0 hl
                  by_cases c : m = l
                  · have c' : m.toNat = l.toNat := by omega
                    rw [if_pos c] at this ⊢; rw [if_pos c']; simpa using this
                  · have c' : ¬ m.toNat = l.toNat := by omega
                    rw [if_neg c] at this ⊢; rw [if_neg c', show o + off + l.toNat * n = o + (off + l.toNat * n) by omega]; simpa using this
                · cases h
            | succ _ => simp at h
          | _ => simp at h
        | none =>
          simp only at h
          split at h
          · rename_i hb
            obtain ⟨b0, b1, b2⟩ := hb
            split at h
            · rename_i hg0
              have ht0 := ht rfl
              subst ht0
              simp only [Option.some.injEq, Prod.mk.injEq] at h
              obtain ⟨rfl, rfl⟩ := h
              refine ⟨L, l, hh, cap, Lay.le_refl L, S, rfl, rfl, b0, b1, .inl ⟨rfl, rfl, b2⟩, ?_⟩
              have := VR.slice (L := L) id (if (cap : Int) = l then off else off + l.toNat * n) (hh.toNat - l.toNat) (cap - l.toNat) b o 0 hl
              by_cases c : (cap : Int) = l
              · have c' : cap = l.toNat := by omega
                rw [if_pos c] at this ⊢; rw [if_pos c']; simpa using this
              · have c' : ¬ cap = l.toNat := by omega
                rw [if_neg c] at this ⊢; rw [if_neg c', show o + off + l.toNat * n = o + (off + l.toNat * n) by omega]; simpa using this
            · split at h
              · rename_i hc
                obtain ⟨c1, c2⟩ := hc
                split at h
                · rename_i htl0
                  split at h
                  · rename_i hc2
                    obtain ⟨c3, c4⟩ := hc2
                    subst c3
                    simp only [Option.some.injEq, Prod.mk.injEq] at h
                    obtain ⟨rfl, rfl⟩ := h
                    -- the row keeps its cells, the new one has its spare room
                    have hid : id < H.n := Heap.lt_of_get hg (by simp)
                    obtain ⟨hN, hsz, hth⟩ := hown rfl
                    have hob := S.obj id
                    rw [hg, hl] at hob
                    obtain ⟨k1, k2, k3, k4, k5⟩ := hob
                    have S1 : Sim N W0 L (H.set id (.row true 2 es cs)) w := by
                      refine S.turn id hid _ ?_ ?_
                      · rw [hl]
                        exact ⟨k1, k2, fun h => (by cases h), fun h => (by cases h), fun _ => ⟨hN, hsz, fun j hj => hth j (by simp [spareOf] at hj ⊢; omega)⟩⟩
                      · intro b' k hh'
                        rw [hl] at hh' ⊢; rw [hg]
                        obtain ⟨q1, q2, q3⟩ := hh'
                        exact ⟨q1, q2, by simp [spareOf] at q3 ⊢; omega⟩
                    let o2 := if cap + t = l.toNat then o + off else o + off + l.toNat * es
                    have hcap : l.toNat = cap := by omega
                    have ho2 : 0 < t → o2 = o + cs.length := by
                      intro h0
                      show (if cap + t = l.toNat then o + off else o + off + l.toNat * es) = _
                      rw [if_neg (by omega), hcap]; omega
                    have hn' : (H.set id (.row true 2 es cs)).n = H.n := rfl
                    have S2 := S1.put (.row true 1 es []) (b, o2, t) ?_ ?_
                    · refine ⟨_, l, hh, cap + t, upd_le (S1.fresh _ (Nat.le_refl _)), S2, rfl, rfl, b0, b1, .inl ⟨rfl, rfl, by omega⟩, ?_⟩
                      have := VR.slice (L := upd L (H.set id (.row true 2 es cs)).n (b, o2, t)) H.n 0 0 0 b o2 t (upd_same _ _ _)
                      rw [show hh.toNat - l.toNat = 0 by omega, show cap + t - l.toNat = 0 + t by omega]
                      have e : (if cap + t = l.toNat then (⟨b, o + off, none⟩ : Addr) else ⟨b, o + off + l.toNat * es, none⟩) = ⟨b, o2 + 0, none⟩ := by
                        show _ = (⟨b, (if cap + t = l.toNat then o + off else o + off + l.toNat * es) + 0, none⟩ : Addr)
                        split <;> rfl
                      rw [e]; exact this
                    · refine ⟨fun k hk => by simp at hk, One.nil, fun h => (by cases h), fun h => (by cases h), fun _ => ⟨hN, hsz, fun j hj => ?_⟩⟩
                      simp only [List.length_nil, Nat.zero_add, spareOf, if_true] at hj
                      have ht0 : 0 < t := by
                        rcases Nat.eq_zero_or_pos t with q | q
                        · subst q; simp at hj
                        · exact q
                      rw [ho2 ht0]
                      have := hth (cs.length + j) (by simp [spareOf]; omega)
                      rwa [show o + (cs.length + j) = o + cs.length + j by omega] at this
                    · intro j b' k q1 q2
                      obtain ⟨rfl, q3, q4⟩ := q1
                      simp only [List.length_nil, Nat.zero_add, spareOf, if_true] at q4
                      have ht0 : 0 < t := by
                        rcases Nat.eq_zero_or_pos t with q | q
                        · subst q; simp at q4; omega
                        · exact q
                      rw [ho2 ht0] at q3 q4
                      rw [Heap.get_set _ _ _ hid] at q2
                      split at q2
                      · rename_i ej; subst ej
                        rw [hl] at q2
                        obtain ⟨_, q5, q6⟩ := q2
                        simp [spareOf] at q6; omega
                      · rename_i ej
                        refine S.apart j id _ k ej q2 ?_
                        rw [hg, hl]
                        exact ⟨rfl, by omega, by simp [spareOf]; omega⟩
                  · cases h
                · cases h
              · rename_i hc
                simp only [Option.some.injEq, Prod.mk.injEq] at h
                obtain ⟨rfl, rfl⟩ := h
                refine ⟨L, l, hh, cap + t, Lay.le_refl L, S, rfl, rfl, b0, b1, .inl ⟨rfl, rfl, by omega⟩, ?_⟩
                have := VR.slice (L := L) id (off + l.toNat * n) (hh.toNat - l.toNat) (cap - l.toNat) b o t hl
                rw [show cap + t - l.toNat = cap - l.toNat + t by omega]
                by_cases c : cap + t = l.toNat
                · have : l = 0 := by
                    by_cases c2 : l = 0
                    · exact c2
                    · exfalso; exact hc ⟨by omega, c2⟩
                  subst this
                  rw [if_pos c]; simpa using this
                · rw [if_neg c, show o + off + l.toNat * n = o + (off + l.toNat * n) by omega]; exact this
          · cases h
      · cases h

end Go.Vm

namespace Go.Vm
open Go.RowKit
set_option linter.unusedSimpArgs false
set_option linter.unusedVariables false
variable {P : Program} {N : Th} {W0 : World} {L : Lay} {H : Heap} {w : World}

theorem bounds_run {isS : Bool} {len cap : Nat} {lo hi mx : Option Value} {l h : Int} {m : Nat} (e1 : boundOf 0 lo = some l) (e2 : boundOf len hi = some h) (h0 : 0 ≤ l) (h1 : l ≤ h) (hm : LastBound mx cap h m hi) (w : World) :
    (Instr.sliceBounds isS len cap lo hi mx).run P w = .ok (l.toNat, h.toNat, m) w := by
  rcases hm with ⟨rfl, rfl, h2⟩ | ⟨k, mi, rfl, rfl, h2, h3, h4⟩
  · exact bounds2_run e1 e2 h0 h1 h2 w
  · exact bounds3_run e1 e2 h4 h0 h1 h2 h3 w

theorem mx_same {mx mx' hi : Option Value} {cap m : Nat} {h : Int} (hm : LastBound mx cap h m hi) (ho : OR L mx mx') : mx' = mx := by
  rcases hm with ⟨rfl, _⟩ | ⟨k, mi, rfl, _⟩
  · cases mx' with
    | none => rfl
    | some _ => exact ho.elim
  · cases mx' with
    | none => exact ho.elim
    | some _ => cases ho; rfl

theorem slice_run {t : TypeId} {x x' v : Value} {lo lo' hi hi' mx mx' : Option Value} {H' : Heap} (S : Sim N W0 L H w) (h : exSlice P t x lo hi mx H = some (v, H'))
    (hx : VR L x x') (h1 : OR L lo lo') (h2 : OR L hi hi') (h3 : OR L mx mx') :
    ∃ L' w' v', (Instr.sliceAt t x' lo' hi' mx').run P w = .ok v' w' ∧ L.le L' ∧ Sim N W0 L' H' w' ∧ VR L' v v' := by
  unfold exSlice at h
  split at h
  · -- a string
    rename_i s hu
    cases hx
    cases e1 : boundOf 0 lo with
    | none => simp [e1] at h
    | some l =>
      cases e2 : boundOf s.size hi with
      | none => simp [e1, e2] at h
      | some hh =>
        simp only [e1, e2] at h
        split at h
        · rename_i q1 q2
          simp only [Option.some.injEq] at q1 q2
          subst q1 q2
          split at h
          · rename_i hb
            obtain ⟨b0, b1, b2⟩ := hb
            simp only [Option.some.injEq, Prod.mk.injEq] at h
            obtain ⟨rfl, rfl⟩ := h
            have := boundOf_same e1 h1
            subst this
            have := boundOf_same e2 h2
            subst this
            have : mx' = none := by
              cases mx' with
              | none => rfl
              | some _ => exact h3.elim
            subst this
            refine ⟨L, w, .string (s.extract l.toNat hh.toNat), ?_, Lay.le_refl L, S, .string _⟩
            simp [Instr.sliceAt, Instr.slice, run_underlying hu, bounds2_run e1 e2 b0 b1 b2]
          · cases h
        · cases h
  · -- a slice
    rename_i e id off len cap hu
    cases hn : sizeT P e with
    | none => simp [hn] at h
    | some n =>
      simp only [hn] at h
      cases hx with
      | slice _ _ _ _ b o t hl =>
        obtain ⟨L', l, hh, m, k1, k2, k3, k4, k5, k6, k7, k8⟩ := cut_run S h hl
        have := boundOf_same k3 h1
        subst this
        have := boundOf_same k4 h2
        subst this
        have := mx_same k7 h3
        subst this
        refine ⟨L', w, _, ?_, k1, k2, k8⟩
        simp only [Instr.sliceAt, Instr.slice, Sem.run_bind, run_underlying hu, Result.andThen_ok, bounds_run k3 k4 k5 k6 k7, run_sizeOf hn, Sem.run_pure]
        congr 2
        split
        · rfl
        · simp [Addr.add_mid]
  · -- a nil slice
    rename_i e hu
    cases hx
    split at h
    · rename_i n q0 q1 q2
      simp only [Option.some.injEq, Prod.mk.injEq] at h
      obtain ⟨rfl, rfl⟩ := h
      have := boundOf_same q1 h1
      subst this
      have := boundOf_same q2 h2
      subst this
      have : mx' = none := by
        cases mx' with
        | none => rfl
        | some _ => exact h3.elim
      subst this
      refine ⟨L, w, .slice none 0 0, ?_, Lay.le_refl L, S, .snil 0 0⟩
      have hb := bounds2_run (P := P) (isS := true) (cap := 0) q1 q2 (Int.le_refl 0) (Int.le_refl 0) (by simp) w
      simp only [Instr.sliceAt, Instr.slice, Sem.run_bind, run_underlying hu, Result.andThen_ok, hb, run_sizeOf q0, Sem.run_pure]
      simp
    · cases h
  · -- an array
    rename_i len e id off hu
    split at h
    · rename_i n own es cs hn hg
      cases hx with
      | ptr _ _ b o t hl =>
        obtain ⟨L', l, hh, m, k1, k2, k3, k4, k5, k6, k7, k8⟩ := cut_run S h hl
        obtain ⟨b', o', t', cs', hl', _, _, _, _, ht, _⟩ := S.row hg
        rw [hl] at hl'
        simp only [Option.some.injEq, Prod.mk.injEq] at hl'
        obtain ⟨rfl, rfl, rfl⟩ := hl'
        have ht0 := ht rfl
        subst ht0
        rw [Nat.add_zero] at k7
        have := boundOf_same k3 h1
        subst this
        have := boundOf_same k4 h2
        subst this
        have := mx_same k7 h3
        subst this
        refine ⟨L', w, _, ?_, k1, k2, k8⟩
        simp only [Instr.sliceAt, Sem.run_bind, run_underlying hu, Result.andThen_ok, bounds_run k3 k4 k5 k6 k7, run_sizeOf hn, Sem.run_pure, Instr.sureAddr]
        congr 3
        split
        · rfl
        · simp [Addr.add_mid]
    · cases h
  · cases h

end Go.Vm

namespace Go.Vm
open Go.RowKit
set_option linter.unusedSimpArgs false
set_option linter.unusedVariables false
variable {P : Program} {N : Th} {W0 : World} {L : Lay} {H : Heap} {w : World}

/-- The first elements' cells. -/
theorem cellsOf_run {size n : Nat} {x x' : Value} {cs : List Value} (S : Sim N W0 L H w) (h : cellsOf H size n x = some cs) (hx : VR L x x') :
    ∃ cs', (∀ w1, w1.heap = w.heap → (Builtin.firstCells size n x').run P w1 = .ok ⟨cs'⟩ w1) ∧ LR L cs cs' ∧ One cs := by
  unfold cellsOf at h
  split at h
  · rename_i id off l c
    split at h
    · rename_i own tl es rcs hg
      split at h
      · rename_i hle
        simp only [Option.some.injEq] at h; subst h
        cases hx with
        | slice _ _ _ _ b o t hl =>
          obtain ⟨b', o', t', cs', hl', hr, hlr, h1, h1', _, _⟩ := S.row hg
          rw [hl] at hl'
          simp only [Option.some.injEq, Prod.mk.injEq] at hl'
          obtain ⟨rfl, rfl, rfl⟩ := hl'
          refine ⟨(cs'.drop off).take (n * size), fun w1 hw1 => ?_, (hlr.drop off).take _, (h1.drop off).take _⟩
          have hlen : ((cs'.drop off).take (n * size)).length = n * size := by have := hlr.1; simp; omega
          have := run_loadCells_list (P := P) w1 ⟨b, o + off, none⟩ ((cs'.drop off).take (n * size)) (fun j v hv => by rw [Addr.add_mid, World.cell?_of_block (w := w) (by rw [hw1])]; exact rangeAt_sub hr off (n * size) j v hv)
          rw [hlen] at this
          simpa [Builtin.firstCells] using this
      · cases h
    · cases h
  · split at h
    · rename_i hn
      simp only [Option.some.injEq] at h; subst h hn
      cases hx
      exact ⟨[], fun w1 _ => rfl, LR.nil L, One.nil⟩
    · cases h
  · rename_i s
    split at h
    · simp only [Option.some.injEq] at h; subst h
      cases hx
      refine ⟨_, fun w1 _ => ?_, groundL_LR L _ ?_, ?_⟩
      · simp only [Builtin.firstCells, Sem.run_pure]
        congr 1
        apply Array.ext'
        simp [ByteArray.data_extract]
      · have : ∀ l : List UInt8, groundL (l.map fun b => Value.int .u8 b.toNat) = true := by
          intro l; induction l with
          | nil => rfl
          | cons _ _ ih => simp [groundL, ground, ih]
        exact this _
      · intro i hi; simp [Value.oneCell']
    · cases h
  · cases h

theorem cellsOf_length {size n : Nat} {x : Value} {cs : List Value} (h : cellsOf H size n x = some cs) : cs.length = n * size := by
  unfold cellsOf at h
  split at h
  · split at h
    · split at h
      · simp only [Option.some.injEq] at h; subst h; simp; omega
      · cases h
    · cases h
  · split at h
    · rename_i hn
      simp only [Option.some.injEq] at h; subst h hn; simp
    · cases h
  · split at h
    · rename_i hh
      obtain ⟨rfl, h2⟩ := hh
      simp only [Option.some.injEq] at h; subst h
      have : ∀ s : ByteArray, s.data.toList.length = s.size := fun s => rfl
      simp [this]; omega
    · cases h
  · cases h

theorem lenA_run {x x' : Value} {m : Nat} (h : lenA x = some m) (hx : VR L x x') (w : World) : (Builtin.lenOf x').run P w = .ok m w := by
  cases hx <;> simp [lenA] at h <;> subst h <;> rfl

theorem growBy_le (n : Nat) : ∀ (k c : Nat), c ≤ n → Builtin.growBy n k c ≤ 2 * n + 192
  | 0, c, h => by simp only [Builtin.growBy]; omega
  | k + 1, c, h => by
    simp only [Builtin.growBy]
    split
    · omega
    · by_cases h2 : c + (c + 768) / 4 ≤ n
      · exact growBy_le n k _ h2
      · cases k with
        | zero => simp only [Builtin.growBy]; omega
        | succ k => simp only [Builtin.growBy]; rw [if_pos (by omega)]; omega

theorem nextcap_le {need cap : Nat} (h : cap < need) : Builtin.nextslicecap need cap ≤ 2 * need + 192 := by
  unfold Builtin.nextslicecap
  split
  · omega
  · split
    · omega
    · exact growBy_le need 4 cap (by omega)

end Go.Vm

namespace Go.Vm
open Go.RowKit
set_option linter.unusedSimpArgs false
set_option linter.unusedVariables false
variable {P : Program} {N : Th} {W0 : World} {L : Lay} {H : Heap} {w : World}

theorem choose_cap (need cap : Nat) (e : TypeId) (w : World) : ∃ c, need ≤ c ∧ (choose (.appendCap need cap e)).run P w = .ok c w.drew := by
  refine ⟨_, ?_, rfl⟩
  simp only [Question.cut]; exact Nat.le_add_right _ _

/-- What append comes to where it makes a new row. -/
theorem append_grow {t t1 ty e : TypeId} {d : TypeDesc} {n b m len cap : Nat} {base : Option Addr} {x' z : Value} {old new : List Value} (he : elemT P t = some e) (hu1 : P.underlying t1 = some d) (hd : ∀ k, d ≠ .int k)
    (hn : sizeT P e = some n) (hb : bytesT P e = some b) (hz : zeroT P e = some z) (hzl : z.cells.toList.length = n) (h0 : n ≠ 0) (hm : (Builtin.lenOf x').run P w = .ok m w)
    (hneed : cap < len + m) (hbig : (len + m + 200) * b ≤ 140737488355328) (hbig2 : len + m ≤ 140737488355328)
    (hold : ∀ w1, w1.heap = w.heap → (Builtin.firstCells n len (.slice base len cap)).run P w1 = .ok ⟨old⟩ w1)
    (hnew : ∀ w1, w1.heap = w.heap → (Builtin.firstCells n m x').run P w1 = .ok ⟨new⟩ w1) (ts : List TypeId) :
    ∃ c, len + m ≤ c ∧ (Builtin.append_ ⟨t :: t1 :: ts⟩ ty #[.slice base len cap, x']).run P w =
      .ok (.slice (some ⟨w.heap.size, 0, none⟩) (len + m) c) (w.drew.alloc (.cells ⟨old ++ new ++ repCells (c - (len + m)) z.cells.toList⟩ e)) := by
  obtain ⟨c, hc, hrun⟩ := choose_cap (P := P) (len + m) cap e w
  refine ⟨c, hc, ?_⟩
  obtain ⟨i, hi, hib⟩ := run_info hb
  obtain ⟨hg, ht, hr⟩ := run_zero hz
  have hnc := nextcap_le hneed
  have hbnd : Builtin.nextslicecap (len + m) cap * b ≤ 281474976710656 := by
    have : Builtin.nextslicecap (len + m) cap * b ≤ (2 * (len + m + 200)) * b := Nat.mul_le_mul_right _ (by omega)
    rw [Nat.mul_assoc] at this; omega
  have hfm : (match d with | TypeDesc.int _ => true | _ => false) = false := by cases d <;> first | rfl | exact absurd rfl (hd _)
  have hzc : Builtin.zeroCells z.cells (c - (len + m)) = ⟨repCells (c - (len + m)) z.cells.toList⟩ := by
    unfold Builtin.zeroCells
    exact range_rep _ z.cells (by have : z.cells.size = n := by simpa using hzl
                                  omega)
  unfold Builtin.append_
  simp only [List.getElem?_toArray, List.getElem?_cons_zero, List.getElem?_cons_succ, Sem.run_bind, run_underlying (elemT_und he), Result.andThen_ok, run_sizeOf hn, Sem.run_pure, run_underlying hu1, hfm, Bool.false_eq_true, if_false, hm]
  rw [if_neg (by omega)]
  simp only [Sem.run_bind, typeInfo, run_program, Result.andThen_ok, hi, Sem.run_pure, hib, Sem.run_ite, false_or]
  rw [if_neg (by simp; omega), if_neg (by omega)]
  simp only [Result.andThen_ok, Sem.run_bind, hrun, run_askRoom, hold w.drew rfl, Bool.not_false, if_true, hnew w.drew rfl, hr, hzc, newRow, run_newObj, Sem.run_pure, List.append_toArray]
  simp
  rfl

/-- What append comes to where there is room. -/
theorem append_room {t t1 ty e : TypeId} {d : TypeDesc} {n m len cap : Nat} {b o : Nat} {x' : Value} {new : List Value} (he : elemT P t = some e) (hu1 : P.underlying t1 = some d) (hd : ∀ k, d ≠ .int k)
    (hn : sizeT P e = some n) (hm : (Builtin.lenOf x').run P w = .ok m w)
    (hroom : len + m ≤ cap) (hnew : (Builtin.firstCells n m x').run P w = .ok ⟨new⟩ w) (hth : w.there b (o + len * n) new.length) (h1 : One new) (ts : List TypeId) :
    (Builtin.append_ ⟨t :: t1 :: ts⟩ ty #[.slice (some ⟨b, o, none⟩) len cap, x']).run P w =
      .ok (.slice (some ⟨b, o, none⟩) (len + m) cap) (w.setCells b (o + len * n) new) := by
  have hfm : (match d with | TypeDesc.int _ => true | _ => false) = false := by cases d <;> first | rfl | exact absurd rfl (hd _)
  have hst := run_storeCells_cells (P := P) b (o + len * n) new 0 w (fun j hj => by simpa using (hth j (by omega)).1) (fun j hj => by simpa using (hth j (by omega)).2)
    (fun u hu => by obtain ⟨i, hi, rfl⟩ := List.getElem_of_mem hu; exact h1 i hi)
  simp only [Nat.add_zero] at hst
  unfold Builtin.append_
  simp only [List.getElem?_toArray, List.getElem?_cons_zero, List.getElem?_cons_succ, Sem.run_bind, run_underlying (elemT_und he), Result.andThen_ok, run_sizeOf hn, Sem.run_pure, run_underlying hu1, hfm, Bool.false_eq_true, if_false, hm]
  rw [if_pos hroom]
  simp only [Bool.not_false, if_true, Sem.run_bind, hnew, Result.andThen_ok, Addr.add_mid, hst, Sem.run_pure]

theorem append_room0 {t t1 ty e : TypeId} {d : TypeDesc} {n len cap : Nat} {base : Option Addr} {x' : Value} (he : elemT P t = some e) (hu1 : P.underlying t1 = some d) (hd : ∀ k, d ≠ .int k)
    (hn : sizeT P e = some n) (hm : (Builtin.lenOf x').run P w = .ok 0 w)
    (hroom : len ≤ cap) (hnew : (Builtin.firstCells n 0 x').run P w = .ok #[] w) (ts : List TypeId) :
    (Builtin.append_ ⟨t :: t1 :: ts⟩ ty #[.slice base len cap, x']).run P w = .ok (.slice base len cap) w := by
  have hfm : (match d with | TypeDesc.int _ => true | _ => false) = false := by cases d <;> first | rfl | exact absurd rfl (hd _)
  unfold Builtin.append_
  simp only [List.getElem?_toArray, List.getElem?_cons_zero, List.getElem?_cons_succ, Sem.run_bind, run_underlying (elemT_und he), Result.andThen_ok, run_sizeOf hn, Sem.run_pure, run_underlying hu1, hfm, Bool.false_eq_true, if_false, hm]
  rw [if_pos (by omega)]
  simp only [Bool.not_false, if_true, Sem.run_bind, hnew, Result.andThen_ok]
  cases base with
  | none => simp
  | some a => simp [storeCells]

theorem appendMake_run {t t1 e ty : TypeId} {d : IntKind} {ts : List TypeId} {base : Option Addr} {len cap : Nat} {s' x x' v : Value} {H' : Heap} (S : Sim N W0 L H w) (he : elemT P t = some e) (hu1 : P.underlying t1 = some (.int d))
    (h : exAppendMake P e base len cap x H = some (v, H')) (hs : VR L (.slice base len cap) s') (hx : VR L x x') :
    ∃ L' w' v', (Builtin.append_ ⟨t :: t1 :: ts⟩ ty #[s', x']).run P w = .ok v' w' ∧ L.le L' ∧ Sim N W0 L' H' w' ∧ VR L' v v' := by
  unfold exAppendMake at h
  split at h
  · rename_i k
    split at h
    · rename_i n b z hn hb hz
      split at h
      · rename_i hh
        obtain ⟨rfl, rfl, hk0, hk1, hb1, hzl, h0⟩ := hh
        cases hs
        cases hx
        obtain ⟨i, hi, hib⟩ := run_info hb
        obtain ⟨hg, ht, hr⟩ := run_zero hz
        have hw : IntKind.i64.wrap k = k := Go.IntWalk.i64_in k ⟨by omega, by omega⟩
        have hkb : k * (b : Int) ≤ 1000000 * 1000 := Int.le_trans (Int.mul_le_mul_of_nonneg_right hk1 (by omega)) (Int.mul_le_mul_of_nonneg_left (by omega) (by omega))
        have hkb2 : k.toNat * b ≤ 1000000 * 1000 := Nat.mul_le_mul (by omega) hb1
        obtain ⟨hc, h1⟩ := (ground_VR L z hg).cells ht
        have hzs : z.cells.size = n := by simpa using hzl
        by_cases hz0 : k = 0
        · rw [if_pos hz0] at h
          simp only [Option.some.injEq, Prod.mk.injEq] at h
          obtain ⟨rfl, rfl⟩ := h
          subst hz0
          refine ⟨L, w, _, ?_, Lay.le_refl L, S, .snil _ _⟩
          unfold Builtin.append_
          simp [run_underlying (elemT_und he), run_underlying hu1, run_sizeOf hn, asInt, asIntOf, hw, typeInfo, hi, hib, Result.andThen]
        · rw [if_neg hz0] at h
          simp only [Option.some.injEq, Prod.mk.injEq] at h
          obtain ⟨rfl, rfl⟩ := h
          obtain ⟨m, rfl⟩ : ∃ m : Nat, k = m := ⟨k.toNat, by omega⟩
          have hm : m ≠ 0 := by omega
          simp only [Int.toNat_natCast] at hkb2 ⊢
          obtain ⟨c, hcc, hrunc⟩ := choose_cap (P := P) m 0 e w
          have hz1 : ∀ q, Builtin.zeroCells z.cells q = ⟨repCells q z.cells.toList⟩ := fun q => by
            unfold Builtin.zeroCells
            exact range_rep q z.cells (by omega)
          have hnc : Builtin.nextslicecap m 0 = m := by unfold Builtin.nextslicecap; rw [if_pos (by omega)]
          refine ⟨upd L H.n (w.drew.heap.size, 0, c - m), w.drew.alloc (.cells ⟨repCells m z.cells.toList ++ repCells (c - m) z.cells.toList⟩ e), .slice (some ⟨w.drew.heap.size, 0, none⟩) m c, ?_, upd_le (S.drew.fresh _ (Nat.le_refl _)), ?_, ?_⟩
          · unfold Builtin.append_
            have hmn : ¬ (m = 0 ∨ n = 0) := by omega
            simp only [List.getElem?_toArray, List.getElem?_cons_zero, List.getElem?_cons_succ, Sem.run_bind, run_underlying (elemT_und he), Result.andThen_ok, run_sizeOf hn, Sem.run_pure, run_underlying hu1, if_true, run_asInt, hw]
            rw [if_neg (by omega)]
            simp only [Sem.run_bind, typeInfo, run_program, Result.andThen_ok, hi, Sem.run_pure, hib, Sem.run_ite]
            rw [if_neg (by omega)]
            simp only [Sem.run_pure, Result.andThen_ok, Int.toNat_natCast, Nat.zero_add]
            rw [if_neg (by omega)]
            simp only [Sem.run_bind, Result.andThen_ok, Sem.run_pure, Sem.run_ite, true_or, and_true]
            have h9 : IntKind.i64.max = 9223372036854775807 := by decide
            rw [if_neg (by rw [h9]; omega), hnc, if_neg (by omega)]
            have hmn2 : ¬ m * n = 0 := Nat.mul_ne_zero hm h0
            simp only [Result.andThen_ok, Sem.run_bind, hrunc, run_askRoom, Builtin.firstCells, Bool.not_true, Bool.false_eq_true, if_false, hr, hz1, newRow, run_newObj, Sem.run_pure]
            rw [if_neg hmn2]
            simp
          · refine S.drew.new_row _ e 1 n (c - m) (repCells m z.cells.toList) (fun q hq => ?_) (h1.rep m) ?_ (fun h => by cases h)
            · have := (hc.rep m).2 q hq hq
              refine ⟨(repCells m z.cells.toList)[q]'hq, ?_, this⟩
              rw [cells_getElem?, List.getElem?_append_left hq]; exact List.getElem?_eq_getElem _
            · simp only [spareOf, if_true, List.size_toArray, List.length_append, length_repCells, hzl]; omega
          · have := VR.slice (L := upd L H.n (w.drew.heap.size, 0, c - m)) H.n 0 m m _ _ _ (upd_same _ _ _)
            rw [show m + (c - m) = c by omega] at this
            simpa using this
      · cases h
    · cases h
  · cases h

theorem Free.kill {r : Nat} (F : Free N L H r) (id : Nat) (hid : id < H.n) : Free N L (H.set id .dead) r := ⟨F.void, F.le, by rw [Heap.get_set _ _ _ hid]; split; rfl; exact F.dead, F.lay⟩

theorem appendRow_run {t t1 ty e : TypeId} {d : TypeDesc} {ts : List TypeId} {base : Option Addr} {len cap : Nat} {s' x x' v : Value} {H' : Heap} (S : Sim N W0 L H w) {r : Nat} (F : Free N L H r) (he : elemT P t = some e) (hu1 : P.underlying t1 = some d) (hd : ∀ k, d ≠ .int k)
    (h : exAppendRow P e base len cap x r (fun H o => H.pushAt r o) H = some (v, H')) (hs : VR L (.slice base len cap) s') (hx : VR L x x') :
    ∃ L' w' v', (Builtin.append_ ⟨t :: t1 :: ts⟩ ty #[s', x']).run P w = .ok v' w' ∧ LeAt r L L' ∧ Sim N W0 L' H' w' ∧ VR L' v v' := by
  unfold exAppendRow at h
  split at h
  · rename_i n b m z hn hb hlm hz
    cases hc : cellsOf H n m x with
    | none => simp [hc] at h
    | some new =>
      simp only [hc] at h
      obtain ⟨new', hnewd, hnlr, hn1⟩ := cellsOf_run (P := P) S hc hx
      have hnew' := hnewd w rfl
      have hlen := lenA_run (P := P) hlm hx w
      split at h
      · rename_i hh
        obtain ⟨h0, hzl, hbig, hbig2, hcap⟩ := hh
        have hnewlen : new.length = m * n := cellsOf_length hc
        have hn' := hnlr.1
        have hn1' := hnlr.one hn1
        split at h
        · -- of a nil slice
          split at h
          · rename_i hm0
            subst hm0
            simp only [Option.some.injEq, Prod.mk.injEq] at h
            obtain ⟨rfl, rfl⟩ := h
            cases hs
            have : new' = [] := by
              have : new'.length = 0 := by omega
              exact List.eq_nil_of_length_eq_zero this
            subst this
            exact ⟨L, w, .slice none len cap, append_room0 he hu1 hd hn hlen hcap hnew' ts, LeAt.refl _ _, S, .snil _ _⟩
          · rename_i hm0
            split at h
            · rename_i hc0
              obtain ⟨rfl, rfl⟩ := hc0
              simp only [Option.some.injEq, Prod.mk.injEq] at h
              obtain ⟨rfl, rfl⟩ := h
              cases hs
              obtain ⟨c, hcc, hrun⟩ := append_grow (P := P) (ty := ty) (base := none) he hu1 hd hn hb hz hzl h0 hlen (cap := 0) (len := 0) (by omega) hbig hbig2 (old := []) (fun w1 _ => rfl) hnewd ts
              refine ⟨_, _, _, hrun, upd_at F.lay, S.drew.new_rowAt F _ e 1 n (c - m) new (fun k hk => ?_) hn1 ?_ (fun h => by cases h), ?_⟩
              · exact ⟨new'[k]'(by omega), by rw [cells_getElem?]; simp only [List.nil_append]; rw [List.getElem?_append_left (by omega)]; exact List.getElem?_eq_getElem _, hnlr.2 k hk (by omega)⟩
              · simp only [spareOf, if_true, List.size_toArray, List.nil_append, List.length_append, length_repCells, hzl, Nat.zero_add]; omega
              · have := VR.slice (L := upd L r (w.drew.heap.size, 0, c - m)) r 0 m m _ _ _ (upd_same _ _ _)
                rw [show m + (c - m) = c by omega] at this
                simpa using this
            · cases h
        · -- of a slice
          rename_i id off
          cases hs with
          | slice _ _ _ _ b0 o t0 hl =>
          split at h
          · rename_i hm0
            subst hm0
            simp only [Option.some.injEq, Prod.mk.injEq] at h
            obtain ⟨rfl, rfl⟩ := h
            have : new' = [] := by
              have : new'.length = 0 := by omega
              exact List.eq_nil_of_length_eq_zero this
            subst this
            exact ⟨L, w, _, append_room0 he hu1 hd hn hlen (by omega) hnew' ts, LeAt.refl _ _, S, .slice _ _ _ _ _ _ _ hl⟩
          · rename_i hm0
            split at h
            · rename_i own tl es cs hg
              obtain ⟨b1, o1, t1', cs', hl', hr, hlr, hone, hone', ht, hown⟩ := S.row hg
              rw [hl] at hl'
              simp only [Option.some.injEq, Prod.mk.injEq] at hl'
              obtain ⟨rfl, rfl, rfl⟩ := hl'
              have hcl := hlr.1
              have hid : id < H.n := Heap.lt_of_get hg (by simp)
              split at h
              · -- room that is known
                rename_i hroom
                split at h
                · rename_i hh2
                  obtain ⟨rfl, hle⟩ := hh2
                  simp only [Option.some.injEq, Prod.mk.injEq] at h
                  obtain ⟨rfl, rfl⟩ := h
                  have hmul : (len + m) * n = len * n + m * n := Nat.add_mul _ _ _
                  have hth : w.there b0 (o + off + len * n) new'.length := fun j hj => by
                    have := (hown rfl).2.2 (off + len * n + j) (by omega)
                    rwa [show o + (off + len * n + j) = o + off + len * n + j by omega] at this
                  have hrun := append_room (P := P) (ty := ty) he hu1 hd hn hlen (cap := cap + t0) (b := b0) (o := o + off) (by omega) hnew' hth hn1' ts
                  refine ⟨L, _, _, hrun, LeAt.refl _ _, ?_, .slice _ _ _ _ _ _ _ hl⟩
                  have := S.write hg hl (off + len * n) hnlr hn1 (by omega)
                  rwa [show o + (off + len * n) = o + off + len * n by omega] at this
                · cases h
              · rename_i hroom
                split at h
                · rename_i hle
                  have hold : ∀ w1, w1.heap = w.heap → (Builtin.firstCells n len (.slice (some ⟨b0, o + off, none⟩) len (cap + t0))).run P w1 = .ok ⟨(cs'.drop off).take (len * n)⟩ w1 := fun w1 hw1 => by
                    have hlen2 : ((cs'.drop off).take (len * n)).length = len * n := by simp; omega
                    have := run_loadCells_list (P := P) w1 ⟨b0, o + off, none⟩ ((cs'.drop off).take (len * n)) (fun j v hv => by rw [Addr.add_mid, World.cell?_of_block (w := w) (by rw [hw1])]; exact rangeAt_sub hr off (len * n) j v hv)
                    rw [hlen2] at this
                    simpa [Builtin.firstCells] using this
                  have holdlr : LR L ((cs.drop off).take (len * n)) ((cs'.drop off).take (len * n)) := (hlr.drop off).take _
                  have hold1 : One ((cs.drop off).take (len * n)) := (hone.drop off).take _
                  have hlr2 := holdlr.append hnlr
                  have h12 := hold1.append hn1
                  have hll : ((cs.drop off).take (len * n) ++ new).length = (len + m) * n := by simp [Nat.add_mul]; omega
                  -- a new row, whatever the heap
                  have grow : ∀ H1 : Heap, Sim N W0 L H1 w → cap + t0 < len + m → Free N L H1 r → ∃ L' w' v', (Builtin.append_ ⟨t :: t1 :: ts⟩ ty #[.slice (some ⟨b0, o + off, none⟩) len (cap + t0), x']).run P w = .ok v' w' ∧ LeAt r L L' ∧
                      Sim N W0 L' (H1.pushAt r (.row true 1 n ((cs.drop off).take (len * n) ++ new))) w' ∧ VR L' (.slice (some ⟨r, 0, none⟩) (len + m) (len + m)) v' := by
                    intro H1 S1 hneed F1
                    obtain ⟨c, hcc, hrun⟩ := append_grow (P := P) (ty := ty) he hu1 hd hn hb hz hzl h0 hlen hneed hbig hbig2 hold hnewd ts
                    refine ⟨_, _, _, hrun, upd_at F1.lay, S1.drew.new_rowAt F1 _ e 1 n (c - (len + m)) _ (fun k hk => ?_) h12 ?_ (fun h => by cases h), ?_⟩
                    · exact ⟨((cs'.drop off).take (len * n) ++ new')[k]'(by rw [← hlr2.1]; exact hk), by rw [cells_getElem?]; rw [List.getElem?_append_left (by rw [← hlr2.1]; exact hk)]; exact List.getElem?_eq_getElem _, hlr2.2 k hk _⟩
                    · simp only [spareOf, if_true, List.size_toArray, List.length_append, length_repCells, hzl]
                      have := hlr2.1
                      simp only [List.length_append] at this; omega
                    · have := VR.slice (L := upd L r (w.drew.heap.size, 0, c - (len + m))) r 0 (len + m) (len + m) _ _ _ (upd_same _ _ _)
                      rw [show len + m + (c - (len + m)) = c by omega] at this
                      simpa using this
                  split at h
                  · -- its capacity is known
                    have ht0 := ht rfl
                    simp only [Option.some.injEq, Prod.mk.injEq] at h
                    obtain ⟨rfl, rfl⟩ := h
                    exact grow H S (by omega) F
                  · -- it is not
                    split at h
                    · rename_i hh2
                      obtain ⟨rfl, hes, hle2⟩ := hh2
                      have hes' := hes.symm
                      subst hes'
                      simp only [Option.some.injEq, Prod.mk.injEq] at h
                      obtain ⟨rfl, rfl⟩ := h
                      by_cases hneed : cap + t0 < len + m
                      · exact grow _ (S.kill id hid) hneed (F.kill id hid)
                      · -- in place
                        obtain ⟨hN, hsz, hth⟩ := hown rfl
                        have hm2 : (len + m) * n = len * n + m * n := Nat.add_mul _ _ _
                        have hm3 : (cap + t0) * n = cap * n + t0 * n := Nat.add_mul _ _ _
                        have hm4 : (len + m) * n ≤ (cap + t0) * n := Nat.mul_le_mul_right _ (by omega)
                        have hsp : (cap + t0 - (len + m)) * n = (cap + t0) * n - (len + m) * n := Nat.sub_mul _ _ _
                        have hspare : spareOf 1 t0 n = t0 * n := by simp [spareOf]
                        have hth2 : w.there b0 (o + off + len * n) new'.length := fun j hj => by
                          have := hth (off + len * n + j) (by rw [hspare]; omega)
                          rwa [show o + (off + len * n + j) = o + off + len * n + j by omega] at this
                        have hrun := append_room (P := P) (ty := ty) he hu1 hd hn hlen (cap := cap + t0) (b := b0) (o := o + off) (by omega) hnew' hth2 hn1' ts
                        have hfree : ∀ j k, o + off ≤ k → k < o + off + (cap + t0) * n → ¬ Owns ((H.set id .dead).get j) (L j) b0 k := by
                          intro j k k1 k2 k3
                          rw [Heap.get_set _ _ _ hid] at k3
                          split at k3
                          · exact k3
                          · rename_i ej
                            refine S.apart j id b0 k ej k3 ?_
                            rw [hg, hl]
                            exact ⟨rfl, by omega, by rw [hspare]; omega⟩
                        have hcell : ∃ v, w.cell? ⟨b0, o + off + len * n, none⟩ = some v ∨ new' = [] := by
                          cases hq : new' with
                          | nil => exact ⟨undef, .inr rfl⟩
                          | cons q qs =>
                            have := (hth2 0 (by rw [hq]; simp)).1
                            obtain ⟨u, hu⟩ := Option.isSome_iff_exists.1 this
                            exact ⟨u, .inl hu⟩
                        have S2 := (S.kill id hid).write_free b0 (o + off + len * n) new' hN hcell (fun j k k1 k2 => hfree j k (by omega) (by omega))
                        have hins : ∀ j, j < new'.length → (w.cell? ⟨b0, o + off + len * n + j, none⟩).isSome = true := fun j hj => (hth2 j hj).1
                        have S3 := S2.putAt (F.kill id hid) (.row true 1 n ((cs.drop off).take (len * n) ++ new)) (b0, o + off, cap + t0 - (len + m)) ?_ ?_
                        · refine ⟨_, _, _, hrun, upd_at F.lay, S3, ?_⟩
                          have := VR.slice (L := upd L r (b0, o + off, cap + t0 - (len + m))) r 0 (len + m) (len + m) _ _ _ (upd_same _ _ _)
                          rw [show len + m + (cap + t0 - (len + m)) = cap + t0 by omega] at this
                          exact this
                        · have hle' := upd_le (x := (b0, o + off, cap + t0 - (len + m))) F.lay
                          refine ⟨fun k hk => ?_, h12, fun h => (by cases h), fun h => (by cases h), fun _ => ⟨hN, by rw [setCells_heap_size]; exact hsz, fun j hj => ?_⟩⟩
                          · rw [hll] at hk
                            have hk2 : k < ((cs'.drop off).take (len * n) ++ new').length := by rw [← hlr2.1, hll]; exact hk
                            refine ⟨((cs'.drop off).take (len * n) ++ new')[k]'hk2, ?_, (hlr2.2 k (by rw [hll]; exact hk) hk2).mono hle'⟩
                            have hl1 : ((cs'.drop off).take (len * n)).length = len * n := by simp; omega
                            by_cases c : k < len * n
                            · rw [List.getElem_append_left (by omega)]
                              rw [World.cell?_setCells_out b0 new' (o + off + len * n) w ⟨b0, o + off + k, none⟩ (fun _ _ => by show o + off + k < o + off + len * n ∨ o + off + len * n + new'.length ≤ o + off + k; omega)]
                              have := hr (off + k) cs'[off + k] (List.getElem?_eq_getElem _)
                              rw [show o + (off + k) = o + off + k by omega] at this
                              rw [this]; simp
                            · rw [List.getElem_append_right (by omega)]
                              have := World.cell?_setCells_in b0 new' (o + off + len * n) w hins (k - len * n) (by omega)
                              rw [show o + off + len * n + (k - len * n) = o + off + k by omega] at this
                              rw [this]; simp only [hl1]
                          · rw [hll] at hj
                            have hsp2 : spareOf 1 (cap + t0 - (len + m)) n = (cap + t0 - (len + m)) * n := by simp [spareOf]
                            rw [hsp2, hsp] at hj
                            have hh3 := hth (off + j) (by rw [hspare]; omega)
                            rw [show o + (off + j) = o + off + j by omega] at hh3
                            refine ⟨?_, by rw [World.frozen?_setCells]; exact hh3.2⟩
                            by_cases c : len * n ≤ j ∧ j < len * n + new'.length
                            · have := World.cell?_setCells_in b0 new' (o + off + len * n) w hins (j - len * n) (by omega)
                              rw [show o + off + len * n + (j - len * n) = o + off + j by omega] at this
                              rw [this]; rfl
                            · rw [World.cell?_setCells_out b0 new' (o + off + len * n) w ⟨b0, o + off + j, none⟩ (fun _ _ => by show o + off + j < o + off + len * n ∨ o + off + len * n + new'.length ≤ o + off + j; omega)]
                              exact hh3.1
                        · intro j b' k q1 q2
                          obtain ⟨rfl, q3, q4⟩ := q1
                          rw [hll] at q4
                          have hsp2 : spareOf 1 (cap + t0 - (len + m)) n = (cap + t0 - (len + m)) * n := by simp [spareOf]
                          rw [hsp2, hsp] at q4
                          exact hfree j k q3 (by omega) q2
                    · cases h
                  · cases h
                · cases h
            · cases h
        · cases h
      · cases h
  · cases h

theorem appendRow_push (e : TypeId) (base : Option Addr) (len cap : Nat) (x : Value) : exAppendRow P e base len cap x H.n Heap.push H = exAppendRow P e base len cap x H.n (fun K o => K.pushAt H.n o) H := by
  unfold exAppendRow
  simp only [Heap.pushAt_n, Heap.pushAt_set_n]
theorem append_run {ts : List TypeId} {ty : TypeId} {s s' x x' v : Value} {H' : Heap} (S : Sim N W0 L H w) (h : exAppend P ts s x H = some (v, H')) (hs : VR L s s') (hx : VR L x x') :
    ∃ L' w' v', (Builtin.append_ ⟨ts⟩ ty #[s', x']).run P w = .ok v' w' ∧ L.le L' ∧ Sim N W0 L' H' w' ∧ VR L' v v' := by
  unfold exAppend at h
  split at h
  · rename_i t t1 ts base len cap
    split at h
    · rename_i e k he hu1
      exact appendMake_run S he hu1 h hs hx
    · rename_i e d hnoint he hu1
      rw [appendRow_push] at h
      obtain ⟨L', w', v', h1, h2, h3⟩ := appendRow_run S S.free he hu1 (fun k hk => hnoint k (by rw [hk])) h hs hx
      exact ⟨L', w', v', h1, h2.le, h3⟩
    · cases h
  · cases h
theorem appendAt_run {ts : List TypeId} {ty : TypeId} {s s' x x' v : Value} {H' : Heap} (S : Sim N W0 L H w) {r : Nat} (F : Free N L H r) (h : exAppendAt P ts s x r H = some (v, H')) (hs : VR L s s') (hx : VR L x x') :
    ∃ L' w' v', (Builtin.append_ ⟨ts⟩ ty #[s', x']).run P w = .ok v' w' ∧ LeAt r L L' ∧ Sim N W0 L' H' w' ∧ VR L' v v' := by
  unfold exAppendAt at h
  split at h
  · rename_i t t1 ts base len cap
    split at h
    · cases h
    · rename_i e d hnoint he hu1
      exact appendRow_run S F he hu1 (fun k hk => hnoint k (by rw [hk])) h hs hx
    · cases h
  · cases h

end Go.Vm
