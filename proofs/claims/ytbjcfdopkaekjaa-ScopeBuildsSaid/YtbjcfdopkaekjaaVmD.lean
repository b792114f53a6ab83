/- What is proved: more of the abstract machine's operations; no theorem of the program. -/
import Derived.Test.YtbjcfdopkaekjaaVmC
namespace Go.Vm
open Go.RowKit
set_option linter.unusedSimpArgs false
set_option linter.unusedVariables false
variable {P : Program} {N : Th} {W0 : World} {L : Lay} {H : Heap} {w : World}

theorem Sim.map {id : Nat} {es : List (Value × Value)} (S : Sim N W0 L H w) (hg : H.get id = .map es) : ∃ b o t arr clock, L id = some (b, o, t) ∧ N.own b ∧ w.heap[b]? = some (.map arr clock) ∧ MapRel L es arr.toList := by
  have hob := S.obj id
  rw [hg] at hob
  cases hl : L id with
  | none => rw [hl] at hob; exact hob.elim
  | some p =>
    obtain ⟨b, o, t⟩ := p
    rw [hl] at hob
    obtain ⟨h1, arr, clock, h2, h3⟩ := hob
    exact ⟨b, o, t, arr, clock, rfl, h1, h2, h3⟩

theorem run_getObj_map {b : Nat} {arr : Array MapEntry} {clock : Nat} (h : w.heap[b]? = some (.map arr clock)) : (getObj b).run P w = .ok (.map arr clock) w := by
  simp [getObj, Sem.run, h]

theorem len_run {ts : List TypeId} {ty : TypeId} {x x' v : Value} (S : Sim N W0 L H w) (h : exLen P ts x H = some v) (hx : VR L x x') :
    (Builtin.len_ ⟨ts⟩ ty #[x']).run P w = .ok v w ∧ ground v = true := by
  unfold exLen at h
  split at h
  · rename_i t ts
    split at h
    · rename_i s hu
      cases hx
      simp only [Option.some.injEq] at h; subst h
      exact ⟨by simp [Builtin.len_, run_underlying hu, goInt], rfl⟩
    · rename_i n e hu
      simp only [Option.some.injEq] at h; subst h
      exact ⟨by simp [Builtin.len_, run_underlying hu, goInt], rfl⟩
    · rename_i e a n c hu
      cases hx <;> (simp only [Option.some.injEq] at h; subst h; exact ⟨by simp [Builtin.len_, run_underlying hu, goInt], rfl⟩)
    · rename_i k e hu
      cases hx
      simp only [Option.some.injEq] at h; subst h
      exact ⟨by simp [Builtin.len_, run_underlying hu, goInt], rfl⟩
    · rename_i k e id hu
      split at h
      · rename_i es hg
        obtain ⟨b, o, t', arr, clock, hl, _, hh, hm⟩ := S.map hg
        cases hx with
        | map _ b2 o2 t2 hl2 =>
          rw [hl] at hl2
          simp only [Option.some.injEq, Prod.mk.injEq] at hl2
          obtain ⟨rfl, rfl, rfl⟩ := hl2
          simp only [Option.some.injEq] at h; subst h
          refine ⟨?_, rfl⟩
          have := hm.1
          simp [Builtin.len_, run_underlying hu, goInt, run_getObj_map hh, this]
      · cases h
    · cases h
  · cases h

theorem cap_run {ts : List TypeId} {ty : TypeId} {x x' v : Value} (S : Sim N W0 L H w) (h : exCap P ts x H = some v) (hx : VR L x x') :
    (Builtin.cap_ ⟨ts⟩ ty #[x']).run P w = .ok v w ∧ ground v = true := by
  unfold exCap at h
  split at h
  · rename_i t ts
    split at h
    · rename_i e l c hu
      cases hx
      simp only [Option.some.injEq] at h; subst h
      exact ⟨by simp [Builtin.cap_, run_underlying hu, goInt], rfl⟩
    · rename_i e id off l c hu
      split at h
      · rename_i own es cs hg
        obtain ⟨b, o, t', cs', hl, _, _, _, _, ht, _⟩ := S.row hg
        have ht0 := ht rfl
        subst ht0
        cases hx with
        | slice _ _ _ _ b2 o2 t2 hl2 =>
          rw [hl] at hl2
          simp only [Option.some.injEq, Prod.mk.injEq] at hl2
          obtain ⟨rfl, rfl, rfl⟩ := hl2
          simp only [Option.some.injEq] at h; subst h
          exact ⟨by simp [Builtin.cap_, run_underlying hu, goInt], rfl⟩
      · cases h
    · cases h
  · cases h

theorem clear_run {ts : List TypeId} {ty : TypeId} {x x' : Value} {H' : Heap} (S : Sim N W0 L H w) (h : exClear P ts x H = some H') (hx : VR L x x') :
    ∃ w', (Builtin.clear_ ⟨ts⟩ ty #[x']).run P w = .ok (.tuple #[]) w' ∧ Sim N W0 L H' w' := by
  unfold exClear at h
  split at h
  · rename_i t ts
    split at h
    · cases h
    · rename_i e he
      have hu2 := elemT_und he
      split at h
      · cases hx
        simp only [Option.some.injEq] at h; subst h
        exact ⟨w, by simp [Builtin.clear_, run_underlying hu2], S⟩
      · rename_i id off len c
        cases hx with
        | slice _ _ _ _ b0 o t0 hl =>
        split at h
        · rename_i h0
          subst h0
          simp only [Option.some.injEq] at h; subst h
          exact ⟨w, by simp [Builtin.clear_, run_underlying hu2], S⟩
        · rename_i h0
          split at h
          · rename_i n z hn hz
            split at h
            · rename_i tl es cs hg
              split at h
              · rename_i hh
                obtain ⟨h1, h2, h3⟩ := hh
                simp only [Option.some.injEq] at h; subst h
                obtain ⟨b1, o1, t1', cs', hl', hr, hlr, hone, hone', ht', hown⟩ := S.row hg
                rw [hl] at hl'
                simp only [Option.some.injEq, Prod.mk.injEq] at hl'
                obtain ⟨rfl, rfl, rfl⟩ := hl'
                obtain ⟨hg', htz, hrz⟩ := run_zero hz
                obtain ⟨hc, hc1⟩ := (ground_VR L z hg').cells htz
                have hzs : z.cells.size = n := by simpa using h2
                have hzc : Builtin.zeroCells z.cells len = ⟨repCells len z.cells.toList⟩ := range_rep _ z.cells (by omega)
                have hll : (repCells len z.cells.toList).length = len * n := by rw [length_repCells, h2]
                have hst := run_storeCells_cells (P := P) b0 (o + off) (repCells len z.cells.toList) 0 w
                  (fun j hj => by have := ((hown rfl).2.2 (off + j) (by omega)).1; simpa [show o + (off + j) = o + off + j by omega] using this)
                  (fun j hj => by have := ((hown rfl).2.2 (off + j) (by omega)).2; simpa [show o + (off + j) = o + off + j by omega] using this)
                  (fun u hu => by obtain ⟨i, hi, rfl⟩ := List.getElem_of_mem hu; exact (hc1.rep len) i hi)
                simp only [Nat.add_zero] at hst
                have S2 := S.write hg hl off (hc.rep len) (hc1.rep len) (by omega)
                refine ⟨_, ?_, S2⟩
                simp only [Builtin.clear_, List.getElem?_toArray, List.getElem?_cons_zero, Sem.run_bind, run_underlying hu2, Result.andThen_ok]
                cases len with
                | zero => exact absurd rfl h0
                | succ len => simp [hrz, hzc, hst]
              · cases h
            · cases h
          · cases h
      · cases h
  · cases h

theorem copy_run {ts : List TypeId} {ty : TypeId} {d d' x x' v : Value} {H' : Heap} (S : Sim N W0 L H w) (h : exCopy P ts d x H = some (v, H')) (hd : VR L d d') (hx : VR L x x') :
    ∃ w', (Builtin.copy_ ⟨ts⟩ ty #[d', x']).run P w = .ok v w' ∧ Sim N W0 L H' w' ∧ ground v = true := by
  unfold exCopy at h
  split at h
  · rename_i t ts base len cap
    split at h
    · rename_i e m he hm
      have hu2 := elemT_und he
      have hlen := lenA_run (P := P) hm hx w
      split at h
      · rename_i n hn
        split at h
        · rename_i new hc
          obtain ⟨new', hnewd, hnlr, hn1⟩ := cellsOf_run (P := P) S hc hx
          have hnew' := hnewd w rfl
          have hnl := cellsOf_length hc
          split at h
          · cases hd
            split at h
            · rename_i h0
              subst h0
              simp only [Option.some.injEq, Prod.mk.injEq] at h
              obtain ⟨rfl, rfl⟩ := h
              refine ⟨w, ?_, S, rfl⟩
              simp only [Nat.min_zero] at hnew'
              simp only [Builtin.copy_, List.getElem?_toArray, List.getElem?_cons_zero, List.getElem?_cons_succ, Sem.run_bind, run_underlying hu2, Result.andThen_ok, hlen, run_sizeOf hn]
              have : Nat.min m 0 = 0 := Nat.min_zero m
              rw [this]
              simp [hnew', goInt]
            · cases h
          · rename_i id off
            cases hd with
            | slice _ _ _ _ b0 o t0 hl =>
            split at h
            · rename_i tl es cs hg
              split at h
              · rename_i hle
                simp only [Option.some.injEq, Prod.mk.injEq] at h
                obtain ⟨rfl, rfl⟩ := h
                obtain ⟨b1, o1, t1', cs', hl', hr, hlr, hone, hone', ht', hown⟩ := S.row hg
                rw [hl] at hl'
                simp only [Option.some.injEq, Prod.mk.injEq] at hl'
                obtain ⟨rfl, rfl, rfl⟩ := hl'
                have hn' := hnlr.1
                have hn1' := hnlr.one hn1
                have hst := run_storeCells_cells (P := P) b0 (o + off) new' 0 w
                  (fun j hj => by have := ((hown rfl).2.2 (off + j) (by omega)).1; simpa [show o + (off + j) = o + off + j by omega] using this)
                  (fun j hj => by have := ((hown rfl).2.2 (off + j) (by omega)).2; simpa [show o + (off + j) = o + off + j by omega] using this)
                  (fun u hu => by obtain ⟨i, hi, rfl⟩ := List.getElem_of_mem hu; exact hn1' i hi)
                simp only [Nat.add_zero] at hst
                have S2 := S.write hg hl off hnlr hn1 (by omega)
                refine ⟨_, ?_, S2, rfl⟩
                simp only [Builtin.copy_, List.getElem?_toArray, List.getElem?_cons_zero, List.getElem?_cons_succ, Sem.run_bind, run_underlying hu2, Result.andThen_ok, hlen, run_sizeOf hn]
                have : Nat.min m len = min m len := rfl
                rw [this]
                simp [hnew', hst, goInt]
              · cases h
            · cases h
          · cases h
        · cases h
      · cases h
    · cases h
  · cases h

end Go.Vm

namespace Go.Vm
open Go.RowKit
set_option linter.unusedSimpArgs false
set_option linter.unusedVariables false
variable {P : Program} {N : Th} {W0 : World} {L : Lay} {H : Heap} {w : World}

/-- What is known of a key's kind. -/
theorem keyKind_ground {t : TypeId} {k : Value} (h : keyKind P t k = true) : ground k = true := by
  unfold keyKind at h
  split at h <;> first | rfl | cases h

theorem checkKey_run {t : TypeId} {k : Value} (h : keyKind P t k = true) (e : Bool) (n : Nat) (w : World) : (Instr.checkKey e (n + 1) t k).run P w = .ok () w := by
  unfold keyKind at h
  unfold Instr.checkKey
  split at h
  · rename_i j j' a hu; simp [run_underlying hu]
  · rename_i s hu; simp [run_underlying hu]
  · rename_i b hu; simp [run_underlying hu]
  · cases h

/-- The place of a key among entries. -/
def mapAt (k : Value) : List (Value × Value) → Nat → Option (Option (Nat × Value))
  | [], _ => some none
  | (q, v) :: es, i => match keyIs k q with
    | some true => some (some (i, v))
    | some false => mapAt k es (i + 1)
    | none => none

theorem sameNow_is {t : TypeId} {k q : Value} {r : Bool} (h : keyKind P t k = true) (hk : keyIs k q = some r) : ∃ d, P.underlying t = some d ∧ Instr.sameNow d k q = some r := by
  unfold keyKind at h
  split at h
  · rename_i j j' a hu
    refine ⟨_, hu, ?_⟩
    cases q with
    | int j2 b =>
      simp only [keyIs] at hk
      split at hk
      · rename_i hj; subst hj; simp only [Option.some.injEq] at hk; simp [Instr.sameNow, hk]
      · cases hk
    | _ => simp [keyIs] at hk
  · rename_i s hu
    refine ⟨_, hu, ?_⟩
    cases q <;> simp [keyIs] at hk
    simp [Instr.sameNow, hk]
  · rename_i b hu
    refine ⟨_, hu, ?_⟩
    cases q <;> simp [keyIs] at hk
    simp [Instr.sameNow, hk]
  · cases h

theorem findNow_run {t : TypeId} {k : Value} (hk : keyKind P t k = true) {d : TypeDesc} (hd : P.underlying t = some d) : ∀ (es : List (Value × Value)) (l : List MapEntry) (i : Nat) (r : Option (Nat × Value)),
    mapAt k es i = some r → MapRel L es l → ∃ r', Instr.findNow d k l i = some r' ∧ (r = none → r' = none) ∧ (∀ j v, r = some (j, v) → ∃ v', r' = some (j, v') ∧ VR L v v' ∧ i ≤ j ∧ j - i < l.length ∧ ∃ q, keyIs k q = some true ∧ (l[j - i]?).map (·.key) = some q)
  | [], l, i, r, h, hm => by
    simp only [mapAt, Option.some.injEq] at h; subst h
    have : l = [] := by
      cases l with
      | nil => rfl
      | cons _ _ => simp [MapRel] at hm
    subst this
    exact ⟨none, rfl, fun _ => rfl, fun j v e => by cases e⟩
  | (q, v) :: es, l, i, r, h, hm => by
    cases l with
    | nil => simp [MapRel] at hm
    | cons e l =>
      have h0 := hm.2 0 (by simp) (by simp)
      simp only [List.getElem_cons_zero] at h0
      obtain ⟨e1, e2, e3⟩ := h0
      have hm' : MapRel L es l := ⟨by have := hm.1; simpa using this, fun j h1 h2 => by have := hm.2 (j + 1) (by simpa using h1) (by simpa using h2); simpa using this⟩
      simp only [mapAt] at h
      cases hq : keyIs k q with
      | none => simp [hq] at h
      | some b =>
        obtain ⟨d', hd', hs⟩ := sameNow_is hk hq
        rw [hd] at hd'
        simp only [Option.some.injEq] at hd'
        subst hd'
        cases b with
        | true =>
          simp only [hq, Option.some.injEq] at h; subst h
          refine ⟨some (i, e.val), by simp [Instr.findNow, e1, hs], (fun h => by cases h), fun j u hh => ?_⟩
          simp only [Option.some.injEq, Prod.mk.injEq] at hh
          obtain ⟨rfl, rfl⟩ := hh
          exact ⟨e.val, rfl, e3, Nat.le_refl _, by simp, q, hq, by simp [e1]⟩
        | false =>
          simp only [hq] at h
          obtain ⟨r', f1, f2, f3⟩ := findNow_run hk hd es l (i + 1) r h hm'
          refine ⟨r', by simp [Instr.findNow, e1, hs, f1], f2, fun j u hh => ?_⟩
          obtain ⟨v', g1, g2, g3, g4, q', g5, g6⟩ := f3 j u hh
          refine ⟨v', g1, g2, by omega, by simp; omega, q', g5, ?_⟩
          rw [show j - i = (j - (i + 1)) + 1 by omega]; simpa using g6

theorem mapFind_at {k : Value} : ∀ (es : List (Value × Value)) (i : Nat), (mapFind k es) = (mapAt k es i).map fun r => r.map (·.2)
  | [], i => rfl
  | (q, v) :: es, i => by
    simp only [mapFind, mapAt]
    cases keyIs k q with
    | none => rfl
    | some b => cases b with
      | true => rfl
      | false => exact mapFind_at es (i + 1)

theorem findKey_run {t : TypeId} {k : Value} (hk : keyKind P t k = true) {es : List (Value × Value)} {l : List MapEntry} {r : Option (Nat × Value)} (h : mapAt k es 0 = some r) (hm : MapRel L es l) (w : World) :
    ∃ r', (Instr.findKey t k l).run P w = .ok r' w ∧ (r = none → r' = none) ∧ (∀ j v, r = some (j, v) → ∃ v', r' = some (j, v') ∧ VR L v v' ∧ j < l.length ∧ ∃ q, keyIs k q = some true ∧ (l[j]?).map (·.key) = some q) := by
  have hd : ∃ d, P.underlying t = some d := by
    unfold keyKind at hk
    cases hu : P.underlying t with
    | none => simp [hu] at hk
    | some d => exact ⟨d, rfl⟩
  obtain ⟨d, hd⟩ := hd
  obtain ⟨r', h1, h2, h3⟩ := findNow_run hk hd es l 0 r h hm
  refine ⟨r', ?_, h2, fun j v e => ?_⟩
  · simp [Instr.findKey, run_underlying hd, h1]
  · obtain ⟨v', g1, g2, _, g4, q, g5, g6⟩ := h3 j v e
    exact ⟨v', g1, g2, by simpa using g4, q, g5, by simpa using g6⟩

/-- A look-up's second half: among entries. -/
def lookTail (kt et : TypeId) (k : Value) (ok : Bool) (arr : Array MapEntry) : Sem Value := do
  Instr.checkKey arr.isEmpty 10000 kt k
  let (v, found) ← match ← Instr.findKey kt k arr.toList with
    | some (_, v) => pure (v, true)
    | none => pure (← zeroValue et, false)
  pure (if ok then .tuple #[v, .bool found] else v)

theorem lookTail_run {kt et : TypeId} {k v : Value} {ok : Bool} {es : List (Value × Value)} {arr : Array MapEntry} (hkk : keyKind P kt k = true) (hrel : MapRel L es arr.toList)
    (hv : (match mapFind k es with | some (some v) => some (if ok then Value.tuple #[v, .bool true] else v) | some none => (zeroT P et).map fun z => if ok then .tuple #[z, .bool false] else z | none => none) = some v) (w : World) :
    ∃ v', (lookTail kt et k ok arr).run P w = .ok v' w ∧ VR L v v' := by
  rw [mapFind_at es 0] at hv
  cases hat : mapAt k es 0 with
  | none => simp [hat] at hv
  | some r =>
    obtain ⟨r', f1, f2, f3⟩ := findKey_run hkk hat hrel w
    have hck := checkKey_run hkk arr.isEmpty 9999 w
    cases r with
    | none =>
      have := f2 rfl
      subst this
      simp only [hat, Option.map_some, Option.map_none, Option.map_eq_some_iff] at hv
      obtain ⟨z, hz, rfl⟩ := hv
      obtain ⟨hg, ht, hr⟩ := run_zero hz
      refine ⟨if ok then .tuple #[z, .bool false] else z, ?_, ?_⟩
      · simp only [lookTail, Sem.run_bind, hck, Result.andThen_ok, f1, hr, Sem.run_pure]
      · cases ok with
        | true => exact .tuple [z, .bool false] [z, .bool false] rfl ((LR.nil L).cons (.bool false) |>.cons (ground_VR L z hg)).2
        | false => exact ground_VR L z hg
    | some p =>
      obtain ⟨j, u⟩ := p
      obtain ⟨u', g1, g2, _⟩ := f3 j u rfl
      subst g1
      simp only [hat, Option.map_some, Option.some.injEq] at hv
      subst hv
      refine ⟨if ok then .tuple #[u', .bool true] else u', ?_, ?_⟩
      · simp only [lookTail, Sem.run_bind, hck, Result.andThen_ok, f1, Sem.run_pure]
      · cases ok with
        | true => exact .tuple [u, .bool true] [u', .bool true] rfl ((LR.nil L).cons (.bool true) |>.cons g2).2
        | false => exact g2

theorem lookup_run {t : TypeId} {m m' k k' v : Value} {ok : Bool} (S : Sim N W0 L H w) (h : exLookup P t m k ok H = some v) (hm : VR L m m') (hk : VR L k k') :
    ∃ v', (Instr.lookup t m' k' ok).run P w = .ok v' w ∧ VR L v v' := by
  unfold exLookup at h
  split at h
  · rename_i kt et hu
    split at h
    · cases h
    · rename_i hkk
      have := hk.ground_eq (keyKind_ground hkk)
      subst this
      cases m with
      | map r =>
        cases r with
        | none =>
          cases hm
          obtain ⟨v', e1, e2⟩ := lookTail_run (L := L) (et := et) (ok := ok) (es := []) (arr := #[]) (v := v) hkk ⟨rfl, fun i h => by simp at h⟩ (by simpa [mapFind] using h) w
          refine ⟨v', ?_, e2⟩
          rw [← e1]
          simp only [Instr.lookup, lookTail, Sem.run_bind, run_underlying hu, Result.andThen_ok, Sem.run_pure]
          rfl
        | some id =>
          cases hm with
          | map _ b o t' hl =>
            simp only at h
            cases hg : H.get id with
            | map es =>
              simp only [hg] at h
              obtain ⟨b2, o2, t2, arr, clock, hl2, _, hh, hrel⟩ := S.map hg
              rw [hl] at hl2
              simp only [Option.some.injEq, Prod.mk.injEq] at hl2
              obtain ⟨rfl, rfl, rfl⟩ := hl2
              obtain ⟨v', e1, e2⟩ := lookTail_run (L := L) (et := et) (ok := ok) (v := v) hkk hrel h w
              refine ⟨v', ?_, e2⟩
              rw [← e1]
              simp only [Instr.lookup, lookTail, Sem.run_bind, run_underlying hu, Result.andThen_ok, Sem.run_pure, run_getObj_map hh]
              rfl
            | _ => simp [hg] at h
      | _ => simp at h
  · cases h

/-! ### A map that is written -/
theorem run_setObj_map {b : Nat} {arr : Array MapEntry} {clock : Nat} (h : w.heap[b]? = some (.map arr clock)) (o : Obj) : (setObj b o).run P w = .ok () { w with heap := w.heap.setIfInBounds b o } := by
  simp [setObj, Sem.run, h]

theorem Sim.map_write {id : Nat} {es es' : List (Value × Value)} {b o t : Nat} {arr arr' : Array MapEntry} {clock clock' : Nat} (S : Sim N W0 L H w) (hg : H.get id = .map es) (hl : L id = some (b, o, t))
    (hh : w.heap[b]? = some (.map arr clock)) (hm : MapRel L es' arr'.toList) : Sim N W0 L (H.set id (.map es')) { w with heap := w.heap.setIfInBounds b (.map arr' clock') } := by
  have hid : id < H.n := Heap.lt_of_get hg (by simp)
  have hob := S.obj id
  rw [hg, hl] at hob
  have hN := hob.1
  have hlt : b < w.heap.size := by obtain ⟨hb, _⟩ := Array.getElem?_eq_some_iff.1 hh; exact hb
  have other : ∀ k, k ≠ b → (w.heap.setIfInBounds b (.map arr' clock'))[k]? = w.heap[k]? := fun k hk => by
    rw [Array.getElem?_setIfInBounds]; rw [if_neg (by omega)]
  refine ⟨⟨S.below.os, S.below.tape, S.below.output, by simpa using S.below.size, fun k hk => ?_⟩, by simpa using S.base, fun k o' hg2 => ?_, S.void, S.fresh, fun j => ?_, fun i j b' k hij h2 h3 => ?_, fun k o' hk ho => ?_⟩
  · show (w.heap.setIfInBounds b (.map arr' clock'))[k]? = _
    rw [other k (by have := hN.1; omega)]; exact S.below.block k hk
  · show (w.heap.setIfInBounds b (.map arr' clock'))[k]? = _
    rw [other k (fun e => by rw [e, hN.2] at hg2; cases hg2)]; exact S.ghost k o' hg2
  · rw [Heap.get_set _ _ _ hid]
    by_cases c : j = id
    · rw [if_pos c]; subst c; rw [hl]
      exact ⟨hN, arr', clock', by simp [hlt], hm⟩
    · rw [if_neg c]
      have hoj := S.obj j
      have hap : ∀ k, ¬ Owns (H.get j) (L j) b k := fun k hk => S.apart j id b k c hk (by rw [hg, hl]; rfl)
      cases ho : H.get j with
      | dead => trivial
      | row own tl es2 cs =>
        rw [ho] at hoj
        cases hlj : L j with
        | none => rw [hlj] at hoj; exact hoj.elim
        | some p =>
          obtain ⟨b2, o2, t2⟩ := p
          rw [hlj] at hoj
          obtain ⟨k1, k2, k3, k4, k5⟩ := hoj
          have hcell : ∀ k v, w.cell? ⟨b2, k, none⟩ = some v → ({ w with heap := w.heap.setIfInBounds b (.map arr' clock') } : World).cell? ⟨b2, k, none⟩ = some v := fun k v hv => by
            have hne : b2 ≠ b := fun e => by subst e; simp [World.cell?, hh] at hv
            rw [World.cell?_of_block (w := w) (other b2 hne)]; exact hv
          refine ⟨fun k hk => ?_, k2, k3, k4, fun ho => ⟨(k5 ho).1, by simpa using (k5 ho).2.1, fun k hk => ?_⟩⟩
          · obtain ⟨v', e, r⟩ := k1 k hk
            exact ⟨v', hcell _ _ e, r⟩
          · obtain ⟨e1, e2⟩ := (k5 ho).2.2 k hk
            obtain ⟨v, e⟩ := Option.isSome_iff_exists.1 e1
            refine ⟨by rw [hcell _ _ e]; rfl, ?_⟩
            have hne : b2 ≠ b := fun e' => by subst e'; simp [World.cell?, hh] at e
            rw [World.frozen?_of_block (w := w) (other b2 hne)]; exact e2
      | map es2 =>
        rw [ho] at hoj hap
        cases hlj : L j with
        | none => rw [hlj] at hoj; exact hoj.elim
        | some p =>
          obtain ⟨b2, o2, t2⟩ := p
          rw [hlj] at hoj hap
          have hne : b2 ≠ b := fun e => hap 0 e.symm
          obtain ⟨k1, a2, c2, k2, k3⟩ := hoj
          refine ⟨k1, a2, c2, ?_, k3⟩
          show (w.heap.setIfInBounds b (.map arr' clock'))[b2]? = _
          rw [other b2 hne]; exact k2
      | siter s pos =>
        rw [ho] at hoj hap
        cases hlj : L j with
        | none => rw [hlj] at hoj; exact hoj.elim
        | some p =>
          obtain ⟨b2, o2, t2⟩ := p
          rw [hlj] at hoj hap
          have hne : b2 ≠ b := fun e => hap 0 e.symm
          obtain ⟨k1, k2, k3⟩ := hoj
          refine ⟨k1, k2, ?_⟩
          show (w.heap.setIfInBounds b (.map arr' clock'))[b2]? = _
          rw [other b2 hne]; exact k3
      | unit e =>
        rw [ho] at hoj
        cases hlj : L j with
        | none => rw [hlj] at hoj; exact hoj.elim
        | some p =>
          obtain ⟨b2, o2, t2⟩ := p
          rw [hlj] at hoj
          obtain ⟨k1, k2, c, fr, k3⟩ := hoj
          have hne : b2 ≠ b := fun e => by subst e; rw [hh] at k3; cases k3
          refine ⟨k1, k2, c, fr, ?_⟩
          show (w.heap.setIfInBounds b (.map arr' clock'))[b2]? = _
          rw [other b2 hne]; exact k3
  · have ho : ∀ i', Owns ((H.set id (.map es')).get i') (L i') b' k → Owns (H.get i') (L i') b' k := by
      intro i' hh
      rw [Heap.get_set _ _ _ hid] at hh
      split at hh
      · rename_i e; subst e; rw [hg]; rw [hl] at hh ⊢; exact hh
      · exact hh
    exact S.apart i j b' k hij (ho i h2) (ho j h3)
  · have ho' : (w.heap.setIfInBounds b (.map arr' clock'))[k]? = some o' := ho
    by_cases e : k = b
    · subst e
      rw [Array.getElem?_setIfInBounds, if_pos rfl, if_pos hlt] at ho'
      simp only [Option.some.injEq] at ho'
      subst ho'
      trivial
    · rw [other k e] at ho'
      exact S.calm k o' hk ho'

theorem ba_eq {a b : ByteArray} (h : (a == b) = true) : a = b := by
  cases a; cases b
  have : (ByteArray.beq _ _) = true := h
  simpa [ByteArray.beq] using this
theorem ba_refl (a : ByteArray) : (a == a) = true := by
  cases a
  show ByteArray.beq _ _ = true
  simp [ByteArray.beq]
theorem keyIs_same {k q : Value} (h : keyIs k q = some true) : q = k := by
  cases k <;> cases q <;> simp [keyIs] at h
  · exact congrArg _ h.symm
  · obtain ⟨rfl, rfl⟩ := h; rfl
  · exact congrArg _ (ba_eq h).symm

theorem mapPut_rel {k v v' : Value} (hk : ground k = true) (hv : VR L v v') : ∀ (es r : List (Value × Value)) (l : List MapEntry) (i : Nat) (c : Nat), mapPut k v es = some r → MapRel L es l →
    (mapAt k es i = some none ∧ MapRel L r (l ++ [{ key := k, val := v', born := c }])) ∨
    (∃ j u, mapAt k es i = some (some (j, u)) ∧ i ≤ j ∧ j - i < l.length ∧ MapRel L r (l.modify (j - i) fun e => { e with key := k, val := v' }))
  | [], r, l, i, c, h, hm => by
    simp only [mapPut, Option.some.injEq] at h; subst h
    have : l = [] := by
      cases l with
      | nil => rfl
      | cons _ _ => simp [MapRel] at hm
    subst this
    refine .inl ⟨rfl, by simp, fun j h1 h2 => ?_⟩
    have : j = 0 := by simpa using h1
    subst this
    exact ⟨rfl, hk, hv⟩
  | (q, u) :: es, r, l, i, c, h, hm => by
    cases l with
    | nil => simp [MapRel] at hm
    | cons e l =>
      have h0 := hm.2 0 (by simp) (by simp)
      simp only [List.getElem_cons_zero] at h0
      obtain ⟨e1, e2, e3⟩ := h0
      have hm' : MapRel L es l := ⟨by have := hm.1; simpa using this, fun j h1 h2 => by have := hm.2 (j + 1) (by simpa using h1) (by simpa using h2); simpa using this⟩
      simp only [mapPut] at h
      cases hq : keyIs k q with
      | none => simp [hq] at h
      | some b =>
        cases b with
        | true =>
          simp only [hq, Option.some.injEq] at h; subst h
          refine .inr ⟨i, u, by simp [mapAt, hq], Nat.le_refl _, by simp, ?_⟩
          simp only [Nat.sub_self]
          refine ⟨by have := hm.1; simpa using this, fun j h1 h2 => ?_⟩
          cases j with
          | zero => exact ⟨rfl, hk, hv⟩
          | succ j => exact hm'.2 j (by simpa using h1) (by simpa using h2)
        | false =>
          simp only [hq, Option.map_eq_some_iff] at h
          obtain ⟨r', h, rfl⟩ := h
          have consrel : ∀ {r' : List (Value × Value)} {l' : List MapEntry}, MapRel L r' l' → MapRel L ((q, u) :: r') (e :: l') := fun hr =>
            ⟨by have := hr.1; simp [this], fun j h1 h2 => by
              cases j with
              | zero => exact ⟨e1, e2, e3⟩
              | succ j => exact hr.2 j (by simpa using h1) (by simpa using h2)⟩
          rcases mapPut_rel hk hv es r' l (i + 1) c h hm' with ⟨f1, f2⟩ | ⟨j, x, f1, f2, f3, f4⟩
          · exact .inl ⟨by simp [mapAt, hq, f1], consrel f2⟩
          · refine .inr ⟨j, x, by simp [mapAt, hq, f1], by omega, by simp; omega, ?_⟩
            rw [show j - i = (j - (i + 1)) + 1 by omega]
            simp only [List.modify_succ_cons]
            exact consrel f4

theorem mapPut_run {t : TypeId} {m m' k k' v v' : Value} {H' : Heap} (S : Sim N W0 L H w) (h : exMapPut P t m k v H = some H') (hm : VR L m m') (hk : VR L k k') (hv : VR L v v') :
    ∃ w', (Instr.mapUpdate t m' k' v').run P w = .ok () w' ∧ Sim N W0 L H' w' := by
  unfold exMapPut at h
  split at h
  · rename_i kt et id hu
    split at h
    · rename_i hkk
      have := hk.ground_eq (keyKind_ground hkk)
      subst this
      cases hm with
      | map _ b o t' hl =>
        cases hg : H.get id with
        | map es =>
          simp only [hg, Option.map_eq_some_iff] at h
          obtain ⟨r, h, rfl⟩ := h
          obtain ⟨b2, o2, t2, arr, clock, hl2, _, hh, hrel⟩ := S.map hg
          rw [hl] at hl2
          simp only [Option.some.injEq, Prod.mk.injEq] at hl2
          obtain ⟨rfl, rfl, rfl⟩ := hl2
          have hck := checkKey_run hkk false 9999 w
          rcases mapPut_rel (keyKind_ground hkk) hv es r arr.toList 0 clock h hrel with ⟨f1, f2⟩ | ⟨j, x, f1, f2, f3, f4⟩
          · obtain ⟨r', g1, g2, _⟩ := findKey_run hkk f1 hrel w
            have := g2 rfl
            subst this
            refine ⟨_, ?_, S.map_write hg hl hh (arr' := arr.push { key := k', val := v', born := clock }) (clock' := clock + 1) (by simpa using f2)⟩
            simp only [Instr.mapUpdate, Sem.run_bind, run_underlying hu, Result.andThen_ok, run_getObj_map hh, hck, g1, run_setObj_map hh]
          · obtain ⟨r', g1, _, g3⟩ := findKey_run hkk f1 hrel w
            obtain ⟨v2, q1, q2, q3, q, q4, q5⟩ := g3 j x rfl
            subst q1
            have hq := keyIs_same q4
            subst hq
            have hstays : (Instr.keyThatStays (((arr[j]?).map (·.key)).getD q) q).run P w = .ok q w := by
              have : (arr[j]?).map (·.key) = some q := by rw [← q5]; simp
              rw [this]
              have hsb : Instr.sameBits 10000 q q = true := by
                cases q <;> simp [keyIs] at q4 <;> first | exact ba_refl _ | simp [Instr.sameBits]
              simp [Instr.keyThatStays, hsb]
            refine ⟨_, ?_, S.map_write hg hl hh (arr' := arr.modify j fun e => { e with key := q, val := v' }) (clock' := clock) (by simpa using f4)⟩
            simp only [Instr.mapUpdate, Sem.run_bind, run_underlying hu, Result.andThen_ok, run_getObj_map hh, hck, g1, hstays, run_setObj_map hh]
        | _ => simp [hg] at h
    · cases h
  · cases h

end Go.Vm

namespace Go.Vm
open Go.RowKit
set_option linter.unusedSimpArgs false
set_option linter.unusedVariables false
variable {P : Program} {N : Th} {W0 : World} {L : Lay} {H : Heap} {w : World}

theorem eqNil_run {t : TypeId} {a a' b b' : Value} {r : Bool} (h : eqNil P t a b = some r) (ha : VR L a a') (hb : VR L b b') (w : World) : (Op.equal t a' b').run P w = .ok r w := by
  unfold eqNil at h
  split at h
  case h_3 =>
    split at h
    · rename_i hu hb2
      split at h
      · rename_i hn
        simp only [Option.some.injEq] at h
        subst h
        have hb2 := Nat.eq_of_beq_eq_true hb2
        subst hb2
        cases ha with
        | ptr _ _ b1 o1 t1 hl1 =>
          cases hb with
          | ptr _ _ b2 o2 t2 hl2 =>
            rw [hl1] at hl2
            cases hl2
            show (Op.equalIn (9999 + 1) t _ _).run P w = _
            unfold Op.equalIn
            simp only [Sem.run_bind, run_underlying hu, Result.andThen_ok, run_sizeOf hn]
            rw [if_pos (by simp)]
            unfold sameAddr
            simp
            rw [Bool.eq_iff_iff]
            simp
      · cases h
    · cases h
  all_goals first | cases h | (split at h <;> first | cases h | skip)
  all_goals rename_i hu
  all_goals (cases ha; cases hb)
  all_goals (show (Op.equalIn (9999 + 1) t _ _).run P w = _; unfold Op.equalIn; simp only [Sem.run_bind, run_underlying hu, Result.andThen_ok]; rfl)

theorem bin_run {op : BinOp} {t : TypeId} {x y : Operand} {a a' b b' v : Value} (h : exBin P op t x y a b = some v) (ha : VR L a a') (hb : VR L b b') (w : World) :
    (do eqGuard op t x y a' b'; binOp op t a' b' : Sem Value).run P w = .ok v w ∧ ground v = true := by
  unfold exBin at h
  split at h
  · rename_i hg
    simp only [Bool.and_eq_true] at hg
    rw [ha.ground_eq hg.1, hb.ground_eq hg.2]
    obtain ⟨h1, h2⟩ := ifGround_some h
    exact ⟨pureRun_run P _ _ h1 w, h2⟩
  · rename_i hg
    have hguard : ∀ op, (∃ r, eqNil P t a b = some r) → (eqGuard op t x y a' b') = pure () := by
      intro op ⟨r, hr⟩
      unfold eqNil at hr
      split at hr <;> (cases ha; cases hb) <;> first | (cases op <;> rfl) | cases hr
    cases op with
    | eql =>
      simp only [Option.map_eq_some_iff] at h
      obtain ⟨r, hr, rfl⟩ := h
      refine ⟨?_, rfl⟩
      rw [hguard _ ⟨r, hr⟩]
      have := eqNil_run hr ha hb w
      have hbin : binOp .eql t a' b' = (do pure (.bool (← Op.equal t a' b')) : Sem Value) := by
        unfold eqNil at hr
        split at hr <;> (cases ha; cases hb) <;> first | rfl | cases hr
      simp [hbin, this]
    | neq =>
      simp only [Option.map_eq_some_iff] at h
      obtain ⟨r, hr, rfl⟩ := h
      refine ⟨?_, rfl⟩
      rw [hguard _ ⟨r, hr⟩]
      have := eqNil_run hr ha hb w
      have hbin : binOp .neq t a' b' = (do pure (.bool (!(← Op.equal t a' b'))) : Sem Value) := by
        unfold eqNil at hr
        split at hr <;> (cases ha; cases hb) <;> first | rfl | cases hr
      simp [hbin, this]
    | _ => simp at h

/-! ### Conversions -/
theorem byteList_run : ∀ {cs : List Value} {l : List UInt8}, byteList cs = some l → ∀ (acc : ByteArray) (w : World),
    (forIn (m := Sem) cs acc fun c r =>
        match c with
        | .int .u8 n => pure (ForInStep.yield (r.push (UInt8.ofNat n.toNat)))
        | _ => do
          (stuck "bytesToString: byte expected" : Sem PUnit)
          pure (ForInStep.yield r)).run P w = .ok ⟨acc.data ++ l.toArray⟩ w
  | [], l, h, acc, w => by
    simp only [byteList, Option.some.injEq] at h; subst h
    simp
  | c :: cs, l, h, acc, w => by
    cases c with
    | int k n =>
      cases k with
      | u8 =>
        simp only [byteList, Option.map_eq_some_iff] at h
        obtain ⟨l', h, rfl⟩ := h
        have ih := byteList_run h (acc.push (UInt8.ofNat n.toNat)) w
        simp only [List.forIn_cons, pure_bind]
        rw [ih]
        congr 1
        apply ByteArray.ext
        simp [ByteArray.push]
      | _ => simp [byteList] at h
    | _ => simp [byteList] at h

end Go.Vm

namespace Go.Vm
open Go.RowKit
set_option linter.unusedSimpArgs false
set_option linter.unusedVariables false
variable {P : Program} {N : Th} {W0 : World} {L : Lay} {H : Heap} {w : World}

theorem alloc_heap_new (w : World) (o : Obj) : (w.alloc o).heap[w.heap.size]? = some o := by
  show (w.heap.push o)[w.heap.size]? = _
  simp

/-- A new row, some of it frozen, but none of its cells. -/
theorem Sim.new_row_frozen (S : Sim N W0 L H w) (c : Array Value) (e : TypeId) (fr : Nat × Nat) (hfr : c.size ≤ fr.1) (tl es t : Nat) (cs : List Value)
    (hc : ∀ k (h : k < cs.length), ∃ v', c[k]? = some v' ∧ VR L cs[k] v') (h1 : One cs) (hs : cs.length + spareOf tl t es ≤ c.size) (ht : tl = 0 → t = 0) :
    Sim N W0 (upd L H.n (w.heap.size, 0, t)) (H.push (.row true tl es cs)) (w.alloc (.cells c e fr)) := by
  have S' := S.alloc (.cells c e fr) (.inr hfr)
  have hl := upd_le (x := (w.heap.size, 0, t)) (S.fresh _ (Nat.le_refl _))
  have hcell : ∀ k, (w.alloc (.cells c e fr)).cell? ⟨w.heap.size, k, none⟩ = c[k]? := fun k => by
    simp only [World.cell?, alloc_heap_new]; rfl
  have hfz : ∀ k, k < c.size → (w.alloc (.cells c e fr)).frozen? ⟨w.heap.size, k, none⟩ = false := fun k hk => by
    simp only [World.frozen?, alloc_heap_new]
    have : ¬ fr.1 ≤ k := by omega
    simp [this]
  refine S'.put _ _ ⟨fun k hk => ?_, h1, ht, fun h => (by cases h), fun _ => ⟨S.new, by show w.heap.size < (w.heap.push _).size; simp, fun j hj => ?_⟩⟩ ?_
  · obtain ⟨v', e1, r⟩ := hc k hk
    exact ⟨v', by rw [Nat.zero_add, hcell]; exact e1, r.mono hl⟩
  · rw [Nat.zero_add, hcell, hfz _ (by omega)]
    refine ⟨?_, rfl⟩
    rw [Array.getElem?_eq_getElem (by omega)]; rfl
  · intro j b k h2 h3
    have := (Owns.lt (S.obj j) h3).2
    have : b = w.heap.size := h2.1
    omega

theorem freeze_new (w : World) (c : Array Value) (e : TypeId) (n : Nat) : (w.alloc (.cells c e)).freeze ⟨w.heap.size, n, none⟩ 1 = w.alloc (.cells c e (n, n + 1)) := by
  simp only [World.freeze, World.alloc]
  rw [if_neg (by omega)]
  congr 1
  apply Array.ext_getElem?
  intro i
  rw [Array.getElem?_modify]
  by_cases h : w.heap.size = i
  · subst h; simp
  · rw [if_neg h]
    simp only [Array.getElem?_push]
    rw [if_neg (fun e => h e.symm), if_neg (fun e => h e.symm)]

theorem stringToBytes_run (S : Sim N W0 L H w) (e : TypeId) (s : ByteArray) :
    ∃ L' w' v', (Conv.stringToBytes e s).run P w = .ok v' w' ∧ L.le L' ∧ Sim N W0 L' (H.push (.row true 1 1 (bytesOf s))) w' ∧ VR L' (.slice (some ⟨H.n, 0, none⟩) s.size s.size) v' := by
  obtain ⟨c, hc, hrun⟩ := choose_cap (P := P) s.size 0 e w
  have hbl : (bytesOf s).length = s.size := by
    have : s.data.toList.length = s.size := rfl
    simp [bytesOf, this]
  have hcsz : ((s.data.map fun (b : UInt8) => Value.int .u8 (b.toNat : Int)) ++ Array.replicate (c - s.size) (Value.int .u8 0)).size = c := by
    have : s.data.size = s.size := rfl
    simp [this]; omega
  refine ⟨upd L H.n (w.drew.heap.size, 0, c - s.size), w.drew.alloc (.cells ((s.data.map fun b => Value.int .u8 b.toNat) ++ Array.replicate (c - s.size) (.int .u8 0)) e (c, c + 1)), .slice (some ⟨w.heap.size, 0, none⟩) s.size c, ?_,
    upd_le (S.fresh _ (Nat.le_refl _)), ?_, ?_⟩
  · have hf := freeze_new w.drew ((s.data.map fun b => Value.int .u8 b.toNat) ++ Array.replicate (c - s.size) (.int .u8 0)) e c
    have hsh : (w.drew.alloc (.cells ((s.data.map fun b => Value.int .u8 b.toNat) ++ Array.replicate (c - s.size) (.int .u8 0)) e)).shape? w.heap.size = some (e, c) := by
      have := alloc_heap_new w.drew (.cells ((s.data.map fun b => Value.int .u8 b.toNat) ++ Array.replicate (c - s.size) (.int .u8 0)) e)
      simp only [World.shape?]
      have h2 : w.drew.heap.size = w.heap.size := rfl
      rw [h2] at this
      rw [this]; simp only [hcsz]
    simp only [Conv.stringToBytes, Sem.run_bind, hrun, Result.andThen_ok, newRow, run_newObj, Sem.run_pure, World.alloc_eq]
    have h2 : w.drew.heap.size = w.heap.size := rfl
    simp only [markStringish, Sem.run_bind, run_shape, Result.andThen_ok, h2, hsh]
    simp only [run_freeze, Result.andThen_ok, Sem.run_pure]
    rw [h2] at hf
    rw [hf]
  · refine S.drew.new_row_frozen _ e (c, c + 1) (by simp [hcsz]) 1 1 (c - s.size) (bytesOf s) (fun k hk => ?_) ?_ ?_ (fun h => by cases h)
    · refine ⟨(bytesOf s)[k], ?_, ground_VR L _ (by simp [bytesOf, ground])⟩
      rw [cells_getElem?]
      have hk2 : k < s.data.toList.length := by rw [hbl] at hk; exact hk
      simp only [Array.toList_append, Array.toList_map]
      rw [List.getElem?_append_left (by simpa using hk2)]
      simp only [bytesOf]
      exact List.getElem?_eq_getElem _
    · intro i hi; simp [bytesOf, Value.oneCell']
    · simp only [spareOf, if_true, hbl, hcsz]; omega
  · have := VR.slice (L := upd L H.n (w.drew.heap.size, 0, c - s.size)) H.n 0 s.size s.size _ _ _ (upd_same _ _ _)
    rw [show s.size + (c - s.size) = c by omega] at this
    simpa using this

theorem bytesToString_run {a : Option Addr} {len c : Nat} {x' : Value} {cs : List Value} {l : List UInt8} (S : Sim N W0 L H w) (h : cellsOf H 1 len (.slice a len c) = some cs) (hb : byteList cs = some l) (hx : VR L (.slice a len c) x') :
    (Conv.bytesToString x').run P w = .ok (.string ⟨⟨l⟩⟩) w := by
  obtain ⟨cs', hrun, hlr, h1⟩ := cellsOf_run (P := P) S h hx
  have hg : ∀ (cs : List Value) (l : List UInt8), byteList cs = some l → groundL cs = true := by
    intro cs
    induction cs with
    | nil => intro l _; rfl
    | cons v vs ih =>
      intro l h
      cases v with
      | int k n =>
        cases k with
        | u8 =>
          simp only [byteList, Option.map_eq_some_iff] at h
          obtain ⟨l', h, rfl⟩ := h
          simp [groundL, ground, ih l' h]
        | _ => simp [byteList] at h
      | _ => simp [byteList] at h
  have := hlr.ground_eq (hg cs l hb)
  subst this
  have hr := hrun w rfl
  cases hx with
  | snil =>
    simp only [cellsOf] at h
    split at h
    · simp only [Option.some.injEq] at h; subst h
      simp only [byteList, Option.some.injEq] at hb; subst hb
      rfl
    · cases h
  | slice id off _ _ b o t hl =>
    have hload : (loadCells ⟨b, o + off, none⟩ len).run P w = .ok ⟨cs'⟩ w := by
      simpa [Builtin.firstCells] using hr
    have hfor := byteList_run (P := P) hb ByteArray.empty w
    simp only [Conv.bytesToString, Sem.run_bind, hload, Result.andThen_ok]
    simp only [List.forIn_toArray]
    refine Eq.trans (congrArg (fun r => Result.andThen r (fun a w' => Sem.run P (pure (Value.string a)) w')) hfor) ?_
    simp

/-- What lies behind a block's cells is frozen: nothing is turned. -/
theorem Sim.freeze (S : Sim N W0 L H w) {b n : Nat} {c : Array Value} {e : TypeId} {fr : Nat × Nat} (hN : N.own b) (hb : w.heap[b]? = some (.cells c e fr)) (hn : n = c.size) : Sim N W0 L H (w.freeze ⟨b, n, none⟩ 1) := by
  have hh : (w.freeze ⟨b, n, none⟩ 1).heap = w.heap.modify b fun
      | .cells c elem (lo, hi) => .cells c elem (if lo == hi then (n, n + 1) else (min lo n, max hi (n + 1)))
      | o => o := by
    unfold World.freeze
    rw [if_neg (by omega)]
    rfl
  have hlt : b < w.heap.size := (Array.getElem?_eq_some_iff.1 hb).1
  have other : ∀ k, k ≠ b → (w.freeze ⟨b, n, none⟩ 1).heap[k]? = w.heap[k]? := fun k hk => by
    rw [hh, Array.getElem?_modify, if_neg (fun e => hk e.symm)]
  have hcalm := S.calm b _ hN.1 hb
  have hnew : ∃ fr' : Nat × Nat, (w.freeze ⟨b, n, none⟩ 1).heap[b]? = some (.cells c e fr') ∧ c.size ≤ fr'.1 := by
    obtain ⟨lo, hi⟩ := fr
    rw [hh, Array.getElem?_modify, if_pos rfl, hb]
    refine ⟨_, rfl, ?_⟩
    simp only [calmObj] at hcalm
    by_cases hx : lo = hi
    · subst hx; simp [hn]
    · have : (lo == hi) = false := by simpa using hx
      rw [this]
      simp only [Bool.false_eq_true, if_false]
      rcases hcalm with h1 | h1
      · exact absurd h1 hx
      · omega
  obtain ⟨fr', hb', hfr'⟩ := hnew
  have hcell : ∀ b2 k, (w.freeze ⟨b, n, none⟩ 1).cell? ⟨b2, k, none⟩ = w.cell? ⟨b2, k, none⟩ := fun b2 k => by
    by_cases hx : b2 = b
    · subst hx; simp only [World.cell?, hb, hb']
    · simp only [World.cell?, other b2 hx]
  have hfz : ∀ b2 k, (w.cell? ⟨b2, k, none⟩).isSome = true → w.frozen? ⟨b2, k, none⟩ = false → (w.freeze ⟨b, n, none⟩ 1).frozen? ⟨b2, k, none⟩ = false := fun b2 k h1 h2 => by
    by_cases hx : b2 = b
    · subst hx
      simp only [World.cell?, hb] at h1
      have hk : k < c.size := by
        rcases Nat.lt_or_ge k c.size with h | h
        · exact h
        · rw [Array.getElem?_eq_none h] at h1; simp at h1
      simp only [World.frozen?, hb']
      have : ¬ fr'.1 ≤ k := by omega
      simp [this]
    · simp only [World.frozen?, other b2 hx] at h2 ⊢
      exact h2
  refine ⟨⟨S.below.os, S.below.tape, S.below.output, by rw [hh, Array.size_modify]; exact S.below.size, fun k hk => ?_⟩, by rw [hh, Array.size_modify]; exact S.base, fun k o' hg2 => ?_, S.void, S.fresh, fun j => ?_, S.apart, ?_⟩
  · rw [other k (by have := hN.1; omega)]; exact S.below.block k hk
  · rw [other k (fun e => by rw [e, hN.2] at hg2; cases hg2)]; exact S.ghost k o' hg2
  · have hj := S.obj j
    cases ho : H.get j with
    | dead => trivial
    | row own tl es cs =>
      rw [ho] at hj
      cases hl : L j with
      | none => rw [hl] at hj; exact hj.elim
      | some p =>
        obtain ⟨b2, o2, t2⟩ := p
        rw [hl] at hj
        obtain ⟨k1, k2, k3, k4, k5⟩ := hj
        refine ⟨fun k hk => ?_, k2, k3, k4, fun ho => ⟨(k5 ho).1, by rw [hh, Array.size_modify]; exact (k5 ho).2.1, fun k hk => ?_⟩⟩
        · obtain ⟨v', e1, r⟩ := k1 k hk
          exact ⟨v', by rw [hcell]; exact e1, r⟩
        · obtain ⟨e1, e2⟩ := (k5 ho).2.2 k hk
          exact ⟨by rw [hcell]; exact e1, hfz _ _ e1 e2⟩
    | map es =>
      rw [ho] at hj
      cases hl : L j with
      | none => rw [hl] at hj; exact hj.elim
      | some p =>
        obtain ⟨b2, o2, t2⟩ := p
        rw [hl] at hj
        obtain ⟨k1, arr, clock, k2, k3⟩ := hj
        have hx : b2 ≠ b := fun e => by subst e; rw [hb] at k2; cases k2
        exact ⟨k1, arr, clock, by rw [other b2 hx]; exact k2, k3⟩
    | siter s pos =>
      rw [ho] at hj
      cases hl : L j with
      | none => rw [hl] at hj; exact hj.elim
      | some p =>
        obtain ⟨b2, o2, t2⟩ := p
        rw [hl] at hj
        obtain ⟨k1, k2, k3⟩ := hj
        have hx : b2 ≠ b := fun e => by subst e; rw [hb] at k3; cases k3
        exact ⟨k1, k2, by rw [other b2 hx]; exact k3⟩
    | unit e =>
      rw [ho] at hj
      cases hl : L j with
      | none => rw [hl] at hj; exact hj.elim
      | some p =>
        obtain ⟨b2, o2, t2⟩ := p
        rw [hl] at hj
        obtain ⟨k1, k2, c2, fr2, k3⟩ := hj
        by_cases hx : b2 = b
        · subst hx
          rw [hb] at k3
          simp only [Option.some.injEq, Obj.cells.injEq] at k3
          obtain ⟨_, rfl, _⟩ := k3
          exact ⟨k1, k2, _, _, hb'⟩
        · exact ⟨k1, k2, c2, fr2, by rw [other b2 hx]; exact k3⟩
  · intro k o hk ho
    by_cases hx : k = b
    · subst hx
      rw [hb'] at ho
      simp only [Option.some.injEq] at ho
      subst ho
      exact .inr hfr'
    · rw [other k hx] at ho
      exact S.calm k o hk ho

theorem markStringish_run (S : Sim N W0 L H w) {b o : Nat} (hN : N.own b) : ∃ w', (markStringish ⟨b, o, none⟩).run P w = .ok () w' ∧ Sim N W0 L H w' := by
  cases hb : w.heap[b]? with
  | none => exact ⟨w, by simp [markStringish, World.shape?, hb], S⟩
  | some ob =>
    cases ob with
    | cells c e fr => exact ⟨_, by simp [markStringish, World.shape?, hb], S.freeze hN hb rfl⟩
    | _ => exact ⟨w, by simp [markStringish, World.shape?, hb], S⟩

theorem convert_run {src dst : TypeId} {x x' v : Value} {H' : Heap} (S : Sim N W0 L H w) (h : exConvert P src dst x H = some (v, H')) (hx : VR L x x') :
    ∃ L' w' v', (convert src dst x').run P w = .ok v' w' ∧ L.le L' ∧ Sim N W0 L' H' w' ∧ VR L' v v' := by
  unfold exConvert at h
  split at h
  · rename_i e s hs hd
    split at h
    · rename_i he
      simp only [Option.some.injEq, Prod.mk.injEq] at h
      obtain ⟨rfl, rfl⟩ := h
      cases hx
      obtain ⟨L', w', v', e1, e2, e3, e4⟩ := stringToBytes_run (P := P) S e s
      refine ⟨L', w', v', ?_, e2, e3, e4⟩
      rw [← e1]
      simp only [convert, Sem.run_bind, run_underlying hs, run_underlying hd, Result.andThen_ok, run_underlying he]
    · cases h
  · rename_i e a len c hs hd
    split at h
    · rename_i he
      split at h
      · rename_i cs hc
        simp only [Option.map_eq_some_iff, Prod.mk.injEq] at h
        obtain ⟨l, hl, rfl, rfl⟩ := h
        have := bytesToString_run (P := P) S hc hl hx
        refine ⟨L, w, _, ?_, Lay.le_refl L, S, .string _⟩
        rw [← this]
        cases hx <;> simp only [convert, Sem.run_bind, run_underlying hs, run_underlying hd, Result.andThen_ok, run_underlying he]
      · cases h
    · cases h
  · cases h
  · rename_i e e' id off l c hs hd
    split at h
    · rename_i tl es cs hsd hu hg
      simp only [Option.some.injEq, Prod.mk.injEq] at h
      obtain ⟨rfl, rfl⟩ := h
      obtain ⟨b, o, t, cs', hl, hr, hlr, h1, h1', _, hown⟩ := S.row hg
      cases hx with
      | slice _ _ _ _ b0 o0 t0 hl0 =>
        rw [hl] at hl0
        simp only [Option.some.injEq, Prod.mk.injEq] at hl0
        obtain ⟨rfl, rfl, rfl⟩ := hl0
        obtain ⟨w', e1, S'⟩ := markStringish_run (P := P) (o := o + off) S (hown rfl).1
        have hsd := Nat.eq_of_beq_eq_true hsd
        subst hsd
        rw [hs] at hd
        simp only [Option.some.injEq, TypeDesc.slice.injEq] at hd
        subst hd
        refine ⟨L, w', _, ?_, Lay.le_refl L, S', .slice _ _ _ _ _ _ _ hl⟩
        simp only [convert, Sem.run_bind, run_underlying hs, Result.andThen_ok, run_underlying hu, beq_self_eq_true, e1, Sem.run_pure]
    · cases h
  · cases h
  · split at h
    · rename_i hg
      simp only [Option.map_eq_some_iff, Prod.mk.injEq] at h
      obtain ⟨u, hu, rfl, rfl⟩ := h
      obtain ⟨h1, h2⟩ := ifGround_some hu
      rw [hx.ground_eq hg]
      exact ⟨L, w, u, pureRun_run P _ _ h1 w, Lay.le_refl L, S, ground_VR L u h2⟩
    · cases h

end Go.Vm
