/- What is proved: what the reference's stack turns, step by step. -/
import Derived.Test.YtndegebcamcecaaStackRef
namespace Go.Vm.StackLaw
open Go Go.Proofs
set_option maxRecDepth 100000
set_option linter.unusedSimpArgs false
attribute [local simp] repCells_succ writeAt rd_Fr
theorem copy_run {H : Heap} {x : Value} {xs : List Int} (h : SL H x xs) (hl : xs.length ≤ 1000000) :
    ∃ v H' r, W.call 41 [x] H = some (.val v, H') ∧ H.n ≤ r ∧ GL H' v xs (some r) ∧ Same (fun _ => False) H H' := by
  obtain ⟨v, H', e, ⟨r, hr, g⟩, f⟩ := dup_run (P := Try.prog) T34 h hl
  refine ⟨v, H', r, ?_, hr, g, f⟩
  obtain ⟨b, n, c, rfl⟩ := h.slice
  rw [c41, callB, bodyOf]
  simp [Try.f41, e]
theorem rowsOf_cons (f : RF) (fs : List RF) : rowsOf (f :: fs) = (f.li.toList ++ f.oi.toList) ++ rowsOf fs := rfl
theorem nd_iff (t fr : Nat) (f : RF) (fs : List RF) : (t :: fr :: rowsOf (f :: fs)).Nodup ↔ t ≠ fr ∧ t ∉ rowsOf fs ∧ fr ∉ rowsOf fs ∧ (rowsOf fs).Nodup ∧ (∀ i, f.li = some i ∨ f.oi = some i → i ≠ t ∧ i ≠ fr ∧ i ∉ rowsOf fs) ∧ (∀ i, f.li = some i → f.oi ≠ some i) := by
  rw [rowsOf_cons]
  cases f.li <;> cases f.oi <;> simp <;> grind
section
variable {H : Heap} {t fr size : Nat} {f : RF} {fs : List RF} (h : RS H t fr size (f :: fs))
set_option linter.unusedSectionVars false
include h
/-- The innermost frame's cells. -/
theorem RS.top : ∃ cap cs tl b1 c1 b2 c2, H.get t = .row true 0 1 [iv size, .slice (some ⟨fr, 0, none⟩) (fs.length + 1) cap] ∧ H.get fr = .row true tl 3 cs ∧ fs.length * 3 + 3 ≤ cs.length ∧ fs.length + 1 ≤ cap ∧
    cs[fs.length * 3]? = some (iv f.back) ∧ cs[fs.length * 3 + 1]? = some (.slice b1 f.locs.length c1) ∧ cs[fs.length * 3 + 2]? = some (.slice b2 f.ops.length c2) ∧
    f.lv = .slice b1 f.locs.length c1 ∧ f.ov = .slice b2 f.ops.length c2 := by
  obtain ⟨⟨cap, cs, tl, h1, h2, h3, h4, h5⟩, hok, _⟩ := h
  obtain ⟨q0, q1, q2⟩ := flat_at (pre := []) (rest := fs) (g := f) rfl h5 h3
  obtain ⟨ol, oo⟩ := hok f (by simp)
  obtain ⟨b1, c1, e1⟩ := ol.slice
  obtain ⟨b2, c2, e2⟩ := GL.slice oo
  simp only [List.length_cons] at h1 h3 h4
  exact ⟨cap, cs, tl, b1, c1, b2, c2, h1, h2, by omega, h4, q0, by rw [← e1]; exact q1, by rw [← e2]; exact q2, e1, e2⟩
theorem rops_run (hl : fs.length ≤ 10000) : W.call 36 [ptr t] H = some (.val (iv f.ops.length), H) := by
  have e := rtop_run h rfl hl
  obtain ⟨cap, cs, tl, b1, c1, b2, c2, h1, h2, h3, h4, q0, q1, q2, _, _⟩ := RS.top h
  simp only [ptr_eq, iv_eq] at e h1
  rw [c36, callB, bodyOf]
  simp [Try.f36, e, h2, q2]
theorem rfrm_run (hl : fs.length ≤ 10000) : W.call 35 [ptr t] H = some (.val (iv fs.length), H) := by
  obtain ⟨cap, cs, tl, b1, c1, b2, c2, h1, h2, h3, h4, q0, q1, q2, _, _⟩ := RS.top h
  simp only [ptr_eq, iv_eq] at h1
  rw [c35, callB, bodyOf]
  simp [Try.f35, h1, wrap64 (fs.length : Int) (by omega) (by omega)]
theorem rtop_none (hl : fs.length ≤ 10000) (i : Int) (hi : i < 0 ∨ (f.ops.length : Int) ≤ i) : W.call 37 [ptr t, iv i] H = some (.val (.tuple #[iv 0, .bool false]), H) := by
  have e := rops_run h hl
  simp only [ptr_eq, iv_eq] at e
  rw [c37, callB, bodyOf]
  by_cases h0 : i < 0
  · simp [Try.f37, e, h0]
  · simp [Try.f37, e, h0, show (f.ops.length : Int) ≤ i by omega]
theorem rtop_some (hl : fs.length ≤ 10000) (ho : f.ops.length ≤ 1000000) (i : Nat) (hi : i < f.ops.length) : W.call 37 [ptr t, iv i] H = some (.val (.tuple #[iv (f.ops.getD (f.ops.length - 1 - i) 0), .bool true]), H) := by
  have e := rops_run h hl
  have e2 := rtop_run h rfl hl
  obtain ⟨cap, cs, tl, b1, c1, b2, c2, h1, h2, h3, h4, q0, q1, q2, _, e3⟩ := RS.top h
  have hg := (h.ok f (by simp)).2.sl
  rw [e3] at hg
  rcases hg with ⟨base, cap', hv, h0⟩
  cases hv
  rcases h0 with ⟨_, h0⟩ | ⟨r, off, own, tl', es, cs', rfl, k1, k2, k3⟩
  · rw [h0] at hi; simp at hi
  have k4 := (SL.cell (H := H) (xs := f.ops) (r := r) (off := off) (n := f.ops.length) (cap := c2) ⟨_, _, rfl, .inr ⟨r, off, own, tl', es, cs', rfl, k1, k2, k3⟩⟩).2
  obtain ⟨cs2, m1, m2, m3⟩ := k4
  have m4 := m3 (f.ops.length - 1 - i) (by omega)
  rw [k1, rowCells_row] at m1
  cases m1
  generalize hxi : f.ops.getD (f.ops.length - 1 - i) 0 = xi at *
  simp only [ptr_eq, iv_eq] at e e2 h1 m4
  rw [c37, callB, bodyOf]
  simp [Try.f37, e, e2, show ¬ (i : Int) < 0 by omega, show ¬ f.ops.length ≤ i by omega, h2, q2, wrap64 ((f.ops.length : Int) - 1) (by omega) (by omega), wrap64 ((f.ops.length : Int) - 1 - i) (by omega) (by omega), show (i : Int) ≤ (f.ops.length : Int) - 1 by omega, show (f.ops.length : Int) - 1 - i < f.ops.length by omega,
    show ((f.ops.length : Int) - 1 - i).toNat = f.ops.length - 1 - i by omega, k1, m4]
theorem rloc_none (hl : fs.length ≤ 10000) (i : Int) (hi : i < 0 ∨ (f.locs.length : Int) ≤ i) : W.call 38 [ptr t, iv i] H = some (.val (.tuple #[iv 0, .bool false]), H) := by
  have e := rtop_run h rfl hl
  obtain ⟨cap, cs, tl, b1, c1, b2, c2, h1, h2, h3, h4, q0, q1, q2, _, e3⟩ := RS.top h
  simp only [ptr_eq, iv_eq] at e
  rw [c38, callB, bodyOf]
  by_cases h0 : i < 0
  · simp [Try.f38, h0]
  · simp [Try.f38, e, h0, h2, q1, show (f.locs.length : Int) ≤ i by omega]
theorem rset_none (hl : fs.length ≤ 10000) (i x : Int) (hi : i < 0 ∨ (f.locs.length : Int) ≤ i) : W.call 33 [ptr t, iv i, iv x] H = some (.val (.bool false), H) := by
  have e := rtop_run h rfl hl
  obtain ⟨cap, cs, tl, b1, c1, b2, c2, h1, h2, h3, h4, q0, q1, q2, _, e3⟩ := RS.top h
  simp only [ptr_eq, iv_eq] at e
  rw [c33, callB, bodyOf]
  by_cases h0 : i < 0
  · simp [Try.f33, h0]
  · simp [Try.f33, e, h0, h2, q1, show (f.locs.length : Int) ≤ i by omega]
theorem rloc_some (hl : fs.length ≤ 10000) (i : Nat) (hi : i < f.locs.length) : W.call 38 [ptr t, iv i] H = some (.val (.tuple #[iv (f.locs.getD i 0), .bool true]), H) := by
  have e := rtop_run h rfl hl
  obtain ⟨cap, cs, tl, b1, c1, b2, c2, h1, h2, h3, h4, q0, q1, q2, e3, _⟩ := RS.top h
  rcases (h.ok f (by simp)).1 with ⟨_, h0, _⟩ | ⟨id, _, k0, k1⟩
  · rw [h0] at hi; simp at hi
  rw [e3] at k0
  cases k0
  have m4 : (f.locs.map iv)[i]? = some (iv (f.locs.getD i 0)) := by
    rw [List.getElem?_map, List.getD_eq_getElem?_getD, List.getElem?_eq_getElem hi]; rfl
  have hlen : (f.locs.map iv).length = f.locs.length := by simp
  generalize hxi : f.locs.getD i 0 = xi at *
  generalize f.locs.map iv = ms at *
  simp only [ptr_eq, iv_eq] at e m4
  rw [c38, callB, bodyOf]
  simp [Try.f38, e, h2, q1, show ¬ (i : Int) < 0 by omega, show ¬ f.locs.length ≤ i by omega, hi, k1, m4]
theorem rset_some (hl : fs.length ≤ 10000) (i : Nat) (x : Int) (hi : i < f.locs.length) : ∃ H', W.call 33 [ptr t, iv i, iv x] H = some (.val (.bool true), H') ∧ RS H' t fr size ({ f with locs := f.locs.set i x } :: fs) ∧ Same (fun i => f.li = some i) H H' := by
  have e := rtop_run h rfl hl
  obtain ⟨cap, cs, tl, b1, c1, b2, c2, h1, h2, h3, h4, q0, q1, q2, e3, _⟩ := RS.top h
  rcases (h.ok f (by simp)).1 with ⟨_, h0, _⟩ | ⟨id, e4, k0, k1⟩
  · rw [h0] at hi; simp at hi
  rw [e3] at k0
  cases k0
  have hid := Heap.lt_of_get k1 (by simp)
  have ff := Same.set (X := fun i => f.li = some i) H hid e4 (.row true 0 1 ((f.locs.map iv).set i (iv x)))
  refine ⟨_, ?_, ?_, ff⟩
  · have hlen : (f.locs.map iv).length = f.locs.length := by simp
    have hw := writeAt_one (f.locs.map iv) i (iv x) (by omega)
    generalize f.locs.map iv = ms at *
    simp only [ptr_eq, iv_eq] at e hw
    simp only [writeAt] at hw
    simp at hw
    rw [c33, callB, bodyOf]
    simp [Try.f33, e, h2, q1, show ¬ (i : Int) < 0 by omega, show ¬ f.locs.length ≤ i by omega, hi, k1, hw, show i + 1 ≤ ms.length by omega]
  · obtain ⟨n1, n2, n3, n4, n5, n6⟩ := (nd_iff _ _ _ _).1 h.nd
    have m := n5 id (.inl e4)
    refine ⟨⟨cap, cs, tl, ff.at h1 (by simp) (fun e => ?_), ff.at h2 (by simp) (fun e => ?_), by simp only [List.length_cons]; omega, h4, ?_⟩, fun g hg => ?_, (nd_iff _ _ _ _).2 ⟨n1, n2, n3, n4, n5, n6⟩⟩
    · rw [e4] at e; cases e; exact m.1 rfl
    · rw [e4] at e; cases e; exact m.2.1 rfl
    · obtain ⟨⟨cap', cs', tl', _, h2', _, _, h5⟩, _, _⟩ := h
      rw [h2] at h2'
      cases h2'
      exact h5
    · rcases List.mem_cons.1 hg with rfl | hg
      · refine ⟨.inr ⟨id, e4, ?_, ?_⟩, (h.ok f (by simp)).2.same ff (fun i hi e => n6 i e hi)⟩
        · simp only [List.length_set]; exact e3
        · simp only [List.map_set]; exact Heap.get_set_self _ _ hid
      · exact (h.ok g (by simp [hg])).same ff (fun i hi e => (n5 i (.inl e)).2.2 (mem_rows hg hi))
/-- The innermost frame's operands are others. -/
theorem RS.setops {H1 : Heap} (f1 : Same (fun i => f.oi = some i) H H1) {cs : List Value} {tl : Nat} (hc : H.get fr = .row true tl 3 cs) (ov' : Value) (ops' : List Int) (r : Nat) (g : GL H1 ov' ops' (some r)) (hr : H.n ≤ r) :
    RS (H1.set fr (.row true tl 3 (cs.set (fs.length * 3 + 2) ov'))) t fr size ({ f with ov := ov', ops := ops', oi := some r } :: fs) ∧ Same (fun i => i = fr ∨ f.oi = some i) H (H1.set fr (.row true tl 3 (cs.set (fs.length * 3 + 2) ov'))) := by
  obtain ⟨n1, n2, n3, n4, n5, n6⟩ := (nd_iff _ _ _ _).1 h.nd
  have hfr : fr < H.n := h.lt (by simp)
  have hfr1 : fr < H1.n := Nat.lt_of_lt_of_le hfr f1.n
  have f2 := Same.set (X := (· = fr)) H1 hfr1 rfl (.row true tl 3 (cs.set (fs.length * 3 + 2) ov'))
  have fall : Same (fun i => i = fr ∨ f.oi = some i) H (H1.set fr (.row true tl 3 (cs.set (fs.length * 3 + 2) ov'))) := (f1.mono fun i h => .inr h).trans (f2.mono fun i h => .inl h)
  refine ⟨?_, fall⟩
  have hlt : ∀ i, i ∈ t :: fr :: rowsOf (f :: fs) → i < H.n := fun i hi => h.lt hi
  have hok := h.ok
  obtain ⟨⟨cap, cs', tl', h1, h2, h3, h4, h5⟩, _, _⟩ := h
  rw [hc] at h2
  cases h2
  have ht : ¬ (t = fr ∨ f.oi = some t) := fun e => e.elim n1 (fun e => (n5 t (.inr e)).1 rfl)
  simp only [List.length_cons] at h3 h4
  refine ⟨⟨cap, _, tl, fall.at h1 (by simp) ht, Heap.get_set_self _ _ hfr1, by simp only [List.length_set, List.length_cons]; omega, by simp only [List.length_cons]; omega, ?_⟩, fun g' hg => ?_, (nd_iff _ _ _ _).2 ⟨n1, n2, n3, n4, fun i hi => ?_, fun i hi e => ?_⟩⟩
  · have e5 : cs.take ((fs.length + 1) * 3) = flatG fs ++ [iv f.back, f.lv, f.ov] := h5
    rw [List.length_cons, List.take_set, e5, List.set_append_right _ _ (by rw [flatG_len]; omega), flatG_len, show fs.length * 3 + 2 - fs.length * 3 = 2 by omega]
    rfl
  · rcases List.mem_cons.1 hg with rfl | hg
    · refine ⟨(hok f (by simp)).1.same fall (fun i hi e => e.elim (fun e => (n5 i (.inl hi)).2.1 e) (n6 i hi)), g.same f2 (fun i hi e => ?_)⟩
      cases hi; omega
    · exact (hok g' (by simp [hg])).same fall (fun i hi e => e.elim (fun e => n3 (by rw [← e]; exact mem_rows hg hi)) (fun e => (n5 i (.inr e)).2.2 (mem_rows hg hi)))
  · rcases hi with hi | hi
    · exact n5 i (.inl hi)
    · cases hi
      have a1 := hlt t (by simp)
      exact ⟨by omega, by omega, fun e => by have := hlt r (by simp [rowsOf_cons, e]); omega⟩
  · cases e
    have hi' : f.li = some r := hi
    have := hlt r (by simp [rowsOf_cons, hi'])
    omega
theorem rpush_full (hl : fs.length ≤ 9999) (hb : tot (f :: fs) ≤ 1000000) (hs : size ≤ tot (f :: fs)) (x : Int) : W.call 28 [ptr t, iv x] H = some (.val (iv 41), H) := by
  have key : Gives (W.call 28 [ptr t, iv x] H) fun o H' => o = .val (iv 41) ∧ H' = H := by
    have e := rlen_run h (by simp only [List.length_cons]; omega) hb
    obtain ⟨cap, cs, tl, b1, c1, b2, c2, h1, h2, h3, h4, q0, q1, q2, e3, _⟩ := RS.top h
    simp only [ptr_eq, iv_eq] at e h1
    rw [c28, callB, bodyOf]
    simp [Try.f28]
    refine region_plan (by exact r28) ?_
    simp [e, h1, hs]
  obtain ⟨o, H', e, rfl, rfl⟩ := key
  exact e
theorem rpush_run (hl : fs.length ≤ 9999) (hb : tot (f :: fs) ≤ 1000000) (ho : f.ops.length ≤ 900000) (hs : tot (f :: fs) < size) (x : Int) : ∃ H' ov' r, W.call 28 [ptr t, iv x] H = some (.val (iv 0), H') ∧ RS H' t fr size ({ f with ov := ov', ops := f.ops ++ [x], oi := some r } :: fs) ∧
    Same (fun i => i = fr ∨ f.oi = some i) H H' ∧ H.n ≤ r := by
  have e := rlen_run h (by simp only [List.length_cons]; omega) hb
  have e2 := rtop_run h rfl (by omega)
  obtain ⟨cap, cs, tl, b1, c1, b2, c2, h1, h2, h3, h4, q0, q1, q2, _, e3⟩ := RS.top h
  obtain ⟨v, H1, r1, e4, hr1, g1, f1⟩ := copy_run (h.ok f (by simp)).2.sl (by omega)
  obtain ⟨bv, cv, rfl⟩ := GL.slice g1
  rw [e3] at e4
  have f2 := Same.push (fun _ => False) H1 (.row true 0 1 [iv x])
  obtain ⟨v', r', H3, e5, g3, f3, n3⟩ := grow_run (P := Try.prog) T34 (x := .slice (some ⟨H1.n, 0, none⟩) 1 1) (ys := [x]) (g1.same f2 (fun _ _ h => h)) ⟨_, _, rfl, .inr ⟨H1.n, 0, true, 0, 1, [iv x], rfl, by simp, by simp, by simp⟩⟩ (by simp; omega)
  obtain ⟨r', rfl⟩ : ∃ r2, r' = some r2 := by
    rcases g3 with ⟨_, h0, _⟩ | ⟨id, _, _, _, h0, _⟩
    · simp at h0
    · exact ⟨id, h0⟩
  have f4 : Same (fun i => f.oi = some i) H H3 := (((f1.trans f2).young f3 (fun i hi => by cases hi; omega))).mono fun i h => h.elim
  have hr' : H.n ≤ r' := by
    have a1 := f1.n
    rcases n3 r' rfl with hh | hh
    · cases hh; omega
    · simp at hh; omega
  obtain ⟨h5, f5⟩ := RS.setops h f4 h2 v' (f.ops ++ [x]) r' g3 hr'
  refine ⟨_, v', r', ?_, h5, f5, hr'⟩
  have hfr : fr < H.n := h.lt (by simp)
  have h2c := f4.at h2 (by simp) (fun e => ((nd_iff _ _ _ _).1 h.nd).2.2.2.2.1 fr (.inr e) |>.2.1 rfl)
  have hw := writeAt_one cs (fs.length * 3 + 2) v' (by omega)
  have key : Gives (W.call 28 [ptr t, iv x] H) fun o H' => o = .val (iv 0) ∧ H' = H3.set fr (.row true tl 3 (cs.set (fs.length * 3 + 2) v')) := by
    obtain ⟨b', c', rfl⟩ := GL.slice g3
    simp only [writeAt] at hw
    simp at hw
    simp only [ptr_eq, iv_eq] at e e2 h1 e4 e5
    rw [c28, callB, bodyOf]
    simp [Try.f28]
    refine region_plan (by exact r28) ?_
    simp [e, h1, show ¬ size ≤ tot (f :: fs) by omega, e2, h2, q2, e4]
    simp at e5
    simp [e5, h2c, hw, show fs.length * 3 + 2 + 1 ≤ cs.length by omega]
  obtain ⟨o, H', e, rfl, rfl⟩ := key
  exact e
end
end Go.Vm.StackLaw
