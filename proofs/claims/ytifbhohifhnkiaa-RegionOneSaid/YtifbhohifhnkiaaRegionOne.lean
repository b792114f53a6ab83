/- What is proved: 'signalboxlaw12.RegionOne' hands back true, whatever the input. -/
import Derived.Test.YtifbhohifhnkiaaRegionLaws
namespace Go.Vm.RegionLaw
open Go Go.Proofs
set_option maxRecDepth 100000
set_option linter.unusedSimpArgs false
attribute [local simp] repCells_succ writeAt rd_Fr

/-- Is it in the list? -/
theorem has_run {H : Heap} {v : Value} {xs : List Int} (h : SL H v xs) (hl : xs.length ≤ 1000000) (x : Int) : W.call 51 [v, .int .i64 x] H = some (.val (.bool (decide (x ∈ xs))), H) := by
  have key : Gives (W.call 51 [v, .int .i64 x] H) fun o H' => o = .val (.bool (decide (x ∈ xs))) ∧ H' = H := by
    obtain ⟨b1, cp, rfl, g1⟩ := id h
    rw [c51, callB, bodyOf]
    simp [Try.f51]
    refine loop_wp (fun m t H' => H' = H ∧ ∃ i, i + m = xs.length ∧ rd t 5 = .int .i64 (i : Nat) ∧ x ∉ xs.take i) xs.length ⟨rfl, 0, by omega, by simp, by simp⟩ ?_
    rintro m t H' hk ⟨rfl, i, hi, h5, hx⟩
    have ht : t.length = 18 := hk.1.trans (by simp [len_Bs])
    have hh := hk.all [0, 1] (by decide +kernel)
    simp at hh
    obtain ⟨r0, r1⟩ := hh
    by_cases hm : m = 0
    · subst hm
      obtain rfl : i = xs.length := by omega
      rw [List.take_length] at hx
      simp [ht, r0, r1, h5, hx]
    · have hn : i < xs.length := by omega
      rcases g1 with ⟨rfl, h0⟩ | ⟨ra, oa, ow, tl, es, cs, rfl, _⟩
      · rw [h0] at hn; simp at hn
      obtain ⟨_, d1, k1, _, k2⟩ := h.cell
      have k3 := k2 i hn
      have hget : xs.getD i 0 = xs[i] := by simp [hn]
      rw [hget] at k3
      by_cases c : xs[i] = x
      · simp [ht, r0, r1, h5, hn, k1, k3, c]
        rw [← c]; exact List.getElem_mem _
      · simp [ht, r0, r1, h5, hn, k1, k3, c, wrap64 ((i : Int) + 1) (by omega) (by omega)]
        refine ⟨m - 1, by omega, i + 1, by omega, by simp, ?_⟩
        rw [List.take_succ_eq_append_getElem hn]
        intro hm
        simp only [List.mem_append, List.mem_singleton] at hm
        exact hm.elim hx (fun e => c e.symm)
  obtain ⟨o, H', h, rfl, rfl⟩ := key
  exact h
/-- The list without one. -/
theorem without_run {H : Heap} {v : Value} {xs : List Int} (h : SL H v xs) (hl : xs.length ≤ 1000) (x : Int) :
    Gives (W.call 50 [v, .int .i64 x] H) fun o H' => ∃ v' r, o = .val v' ∧ GL H' v' (xs.filter (fun y => decide (y ≠ x))) r ∧ (∀ i, r = some i → H.n ≤ i) ∧ Same (fun _ => False) H H' := by
  obtain ⟨b1, cp, rfl, g1⟩ := id h
  rw [c50, callB, bodyOf]
  simp [Try.f50]
  have f0 := Same.push (fun _ => False) H (.row true 0 1 [])
  refine loop_wp (fun m t H' => ∃ i v' r, i + m = xs.length ∧ rd t 6 = .int .i64 (i : Nat) ∧ rd t 5 = v' ∧ GL H' v' ((xs.take i).filter (fun y => decide (y ≠ x))) r ∧ (∀ i, r = some i → H.n ≤ i) ∧ Same (fun _ => False) H H') xs.length
    ⟨0, _, some H.n, by omega, by simp, by simp; rfl, .inr ⟨H.n, 0, [], 0, rfl, by simp, by simp, by simp, by simp, .inl rfl⟩, fun i hi => by simp at hi; omega, f0⟩ ?_
  rintro m t H' hk ⟨i, v', r, hi, h6, h5, G, hr, f⟩
  have ht : t.length = 28 := hk.1.trans (by simp [len_Bs])
  have hh := hk.all [0, 1] (by decide +kernel)
  simp at hh
  obtain ⟨r0, r1⟩ := hh
  have h' := h.same f.all
  by_cases hm : m = 0
  · subst hm
    obtain rfl : i = xs.length := by omega
    rw [List.take_length] at G
    simp [ht, r0, r1, h5, h6]
    exact ⟨r, by simpa using G, hr, f⟩
  · have hn : i < xs.length := by omega
    rcases g1 with ⟨rfl, h0⟩ | ⟨ra, oa, ow, tl, es, cs, rfl, _⟩
    · rw [h0] at hn; simp at hn
    obtain ⟨_, d1, k1, _, k2⟩ := h'.cell
    have k3 := k2 i hn
    have hget : xs.getD i 0 = xs[i] := by simp [hn]
    rw [hget] at k3
    have hr' := h'.cell
    by_cases c : xs[i] = x
    · simp [ht, r0, r1, h5, h6, hn, k1, k3, c, wrap64 ((i : Int) + 1) (by omega) (by omega)]
      refine ⟨m - 1, by omega, i + 1, by omega, by simp, r, ?_, hr, f⟩
      rw [List.take_succ_eq_append_getElem hn, List.filter_append]
      simpa [c] using G
    · have f1 := Same.push (fun _ => False) H' (.row true 0 1 [.int .i64 xs[i]])
      have hll : ((xs.take i).filter (fun y => decide (y ≠ x))).length ≤ i := Nat.le_trans (List.length_filter_le _ _) (by simp; omega)
      obtain ⟨v2, r2, H2, e2, G2, f2, n2⟩ := grow_run intT (x := .slice (some ⟨H'.n, 0, none⟩) 1 1) (ys := [xs[i]]) (G.same f1 (fun _ _ h => h)) ⟨_, _, rfl, .inr ⟨H'.n, 0, true, 0, 1, _, rfl, by simp; rfl, by simp, by simp⟩⟩ (by simp only [List.length_cons, List.length_nil]; omega)
      simp [ht, r0, r1, h5, h6, hn, k1, k3, c, e2, wrap64 ((i : Int) + 1) (by omega) (by omega)]
      have hfn := f.n
      have hfn1 := f1.n
      refine ⟨m - 1, by omega, i + 1, by omega, by simp, r2, ?_, ?_, ?_⟩
      · rw [List.take_succ_eq_append_getElem hn, List.filter_append]
        simpa [c] using G2
      · intro j hj
        exact (n2 j hj).elim (fun k => hr j k) (fun k => by omega)
      · refine ⟨Nat.le_trans f.n (Nat.le_trans f1.n f2.n), fun j hj _ => ?_⟩
        rw [f2.get j (by omega) (fun e => by have := hr j e; omega), f1.get j (by omega) (fun h => h), f.get j hj (fun h => h)]

/-! ### Who is there -/
def Rg.all (s : Rg) : List Int := (if s.inn = 0 then [] else [s.inn]) ++ (s.entry ++ s.waits)
/-- What is so behind each step. -/
structure Inv (s : Rg) (th : List Int) (i : Nat) : Prop where
  perm : s.all.Perm th
  nodup : s.all.Nodup
  rng : ∀ x ∈ s.all, 0 < x ∧ x ≤ i
  free : s.inn = 0 → s.entry = []
theorem Inv.size {s : Rg} {th : List Int} {i : Nat} (h : Inv s th i) : s.size ≤ th.length := by
  rw [← h.perm.length_eq]
  unfold Rg.all Rg.size
  simp
theorem all_in {s : Rg} (h : s.inn ≠ 0) : s.all = s.inn :: (s.entry ++ s.waits) := by unfold Rg.all; rw [if_neg h]; rfl
theorem next_all {s : Rg} (hp : ∀ x ∈ s.entry, 0 < x) : (s.next.2.all = s.entry ++ s.waits) ∧ (s.next.2.inn = 0 → s.next.2.entry = []) := by
  unfold Rg.next Rg.all
  cases he : s.entry with
  | nil => simp [he]
  | cons x xs =>
    have := hp x (by rw [he]; simp)
    simp [show ¬ x = 0 by omega]
theorem inv_enter {s : Rg} {th : List Int} {i : Nat} (h : Inv s th i) : (s.enter (i + 1 : Nat)).1 = decide (s.inn = 0) ∧ Inv (s.enter (i + 1 : Nat)).2 (th ++ [((i + 1 : Nat) : Int)]) (i + 1) := by
  obtain ⟨h1, h2, h3, h4⟩ := h
  have hnew : ∀ x ∈ s.all, x ≠ ((i + 1 : Nat) : Int) := fun x hx e => by have := (h3 x hx).2; omega
  unfold Rg.enter
  rw [if_neg (by omega)]
  by_cases c : s.inn = 0
  · rw [if_pos c]
    have ha : ({ s with inn := ((i + 1 : Nat) : Int) } : Rg).all = ((i + 1 : Nat) : Int) :: s.all := by
      rw [all_in (by simp; omega)]
      unfold Rg.all; rw [if_pos c]; rfl
    refine ⟨by simp [c], ?_, ?_, ?_, fun h => by simp at h; omega⟩
    · rw [ha]
      exact (List.Perm.cons _ h1).trans (List.perm_append_comm (l₁ := [((i + 1 : Nat) : Int)]) (l₂ := th))
    · rw [ha, List.nodup_cons]
      exact ⟨fun hm => hnew _ hm rfl, h2⟩
    · rw [ha]
      intro x hx
      rcases List.mem_cons.1 hx with rfl | hx
      · omega
      · have := h3 x hx; omega
  · rw [if_neg c]
    have ha : ({ s with entry := s.entry ++ [((i + 1 : Nat) : Int)] } : Rg).all.Perm (s.all ++ [((i + 1 : Nat) : Int)]) := by
      rw [all_in (s := { s with entry := s.entry ++ [((i + 1 : Nat) : Int)] }) c, all_in c]
      simp only [List.append_assoc, List.cons_append]
      refine List.Perm.cons _ (List.Perm.append_left _ ?_)
      simpa using List.perm_append_comm (l₁ := [((i + 1 : Nat) : Int)]) (l₂ := s.waits)
    refine ⟨by simp [c], ?_, ?_, ?_, fun h => absurd h c⟩
    · exact ha.trans (List.Perm.append_right _ h1)
    · refine ha.nodup_iff.2 ?_
      rw [List.nodup_append]
      refine ⟨h2, by simp, ?_⟩
      intro a ha2 b hb
      simp only [List.mem_singleton] at hb
      rw [hb]; exact hnew a ha2
    · intro x hx
      rcases List.mem_append.1 (ha.mem_iff.1 hx) with hx | hx
      · have := h3 x hx; omega
      · simp only [List.mem_singleton] at hx; omega
theorem inv_fail {s : Rg} {th : List Int} {i : Nat} (h : Inv s th i) (c : s.inn ≠ 0) : (s.fail s.inn).2.1 = true ∧ Inv (s.fail s.inn).2.2 th i := by
  obtain ⟨h1, h2, h3, h4⟩ := h
  have hin := h3 s.inn (by rw [all_in c]; simp)
  have his : s.is s.inn = true := by unfold Rg.is; simp; omega
  unfold Rg.fail
  rw [if_pos his]
  have hp : ∀ x ∈ s.entry, 0 < x := fun x hx => (h3 x (by rw [all_in c]; simp [hx])).1
  obtain ⟨n1, n2⟩ := next_all (s := { s with waits := s.waits ++ [s.inn] }) hp
  have pp : (Rg.next { s with waits := s.waits ++ [s.inn] }).2.all.Perm s.all := by
    rw [n1, all_in c]
    show (s.entry ++ (s.waits ++ [s.inn])).Perm _
    rw [← List.append_assoc]
    exact List.perm_append_comm
  exact ⟨rfl, pp.trans h1, pp.nodup_iff.2 h2, fun x hx => h3 x (pp.mem_iff.1 hx), n2⟩
theorem inv_leave {s : Rg} {th : List Int} {i : Nat} (h : Inv s th i) (c : s.inn ≠ 0) : (s.leave s.inn).2.1 = true ∧ Inv (s.leave s.inn).2.2 (th.filter (fun y => decide (y ≠ s.inn))) i := by
  obtain ⟨h1, h2, h3, h4⟩ := h
  have hin := h3 s.inn (by rw [all_in c]; simp)
  have his : s.is s.inn = true := by unfold Rg.is; simp; omega
  unfold Rg.leave
  rw [if_pos his]
  have hp : ∀ x ∈ s.waits ++ s.entry, 0 < x := fun x hx => (h3 x (by rw [all_in c]; simp at hx ⊢; exact hx.elim (fun h => .inr (.inr h)) (fun h => .inr (.inl h)))).1
  obtain ⟨n1, n2⟩ := next_all (s := { s with entry := s.waits ++ s.entry, waits := [] }) hp
  have hnd : (s.entry ++ s.waits).Nodup ∧ s.inn ∉ s.entry ++ s.waits := by
    rw [all_in c, List.nodup_cons] at h2; exact ⟨h2.2, h2.1⟩
  have pp : (Rg.next { s with entry := s.waits ++ s.entry, waits := [] }).2.all.Perm (s.entry ++ s.waits) := by
    rw [n1]
    show ((s.waits ++ s.entry) ++ []).Perm _
    rw [List.append_nil]
    exact List.perm_append_comm
  have pf : (s.entry ++ s.waits).Perm (th.filter (fun y => decide (y ≠ s.inn))) := by
    have := h1.filter (fun y => decide (y ≠ s.inn))
    rw [all_in c, List.filter_cons] at this
    simp only [ne_eq, not_true_eq_false, decide_false, Bool.false_eq_true, if_false] at this
    rw [List.filter_eq_self.2 (fun y hy => by simp; intro e; subst e; exact hnd.2 hy)] at this
    exact this
  exact ⟨rfl, pp.trans pf, pp.nodup_iff.2 hnd.1, fun x hx => h3 x (by rw [all_in c]; exact List.mem_cons_of_mem _ (pp.mem_iff.1 hx)), n2⟩

/-! ### The law -/
def fstC : Code → Code | .seq a _ => a | _ => .skip
def sndC : Code → Code | .seq _ b => b | _ => .skip
def bodyC : Code → Code | .block _ a => a | _ => .skip
/-- What is asked behind each step. -/
noncomputable def T12 : Code := sndC (sndC (bodyC (fstC (sndC (loopN Try.f12 0)))))
theorem body12 : loopN Try.f12 0 = .seq (fstC (loopN Try.f12 0)) (.seq (.block 1 (.seq (fstC (bodyC (fstC (sndC (loopN Try.f12 0))))) (.seq (fstC (sndC (bodyC (fstC (sndC (loopN Try.f12 0)))))) T12))) (sndC (sndC (loopN Try.f12 0)))) := rfl

theorem inner_loop {H : Heap} {va vt : Value} {al th : List Int} (ha : SL H va al) (ht' : SL H vt th) (hl : al.length ≤ 1000) (hl2 : th.length ≤ 1000) (hsub : ∀ x ∈ th, x ∈ al) (t0 : List Value) (ht0 : t0.length = 136) (h11 : rd t0 11 = va) (h4 : rd t0 4 = vt) (h12 : rd t0 12 = .int .i64 0) {Q : QA}
    (hQ : ∀ t l, t.length = 136 → rd t 0 = rd t0 0 → rd t 3 = rd t0 3 → rd t 4 = rd t0 4 → rd t 5 = rd t0 5 → look t 0 l = rd t 0 → look t 3 l = rd t 3 → look t 4 l = rd t 4 → look t 5 l = rd t 5 → Q (.exit 3) ⟨Fr t l, []⟩ H) :
    Ends (W.code (.loop (loopN Try.f12 1)) ⟨t0, []⟩ H) Q := by
  refine loop_wp (fun m t H' => H' = H ∧ ∃ i, i + m = th.length ∧ rd t 12 = .int .i64 (i : Nat)) th.length ⟨rfl, 0, by omega, by simpa using h12⟩ ?_
  rintro m t H' hk ⟨rfl, i, hi, g12⟩
  have ht : t.length = 136 := hk.1.trans ht0
  have hh := hk.all [0, 3, 4, 5, 11] (by decide +kernel)
  simp at hh
  obtain ⟨k0, k3, k4, k5, k11⟩ := hh
  rw [h4] at k4
  rw [h11] at k11
  obtain ⟨b1, cp, rfl, g1⟩ := id ht'
  by_cases hm : m = 0
  · subst hm
    simp [loopN, Try.f12, loopsOf, ht, k4, g12, show ¬ i < th.length by omega]
    exact hQ _ _ ht k0 k3 (by rw [k4, h4]) k5 (by simp) (by simp) (by simp) (by simp)
  · have hn : i < th.length := by omega
    rcases g1 with ⟨rfl, h0⟩ | ⟨ra, oa, ow, tl, es, cs, rfl, _⟩
    · rw [h0] at hn; simp at hn
    obtain ⟨_, d1, c1, _, c2⟩ := ht'.cell
    have c3 := c2 i hn
    have hget : th.getD i 0 = th[i] := by simp [hn]
    rw [hget] at c3
    have e := has_run ha (by omega) th[i]
    rw [show decide (th[i] ∈ al) = true from decide_eq_true (hsub _ (List.getElem_mem _))] at e
    simp [loopN, Try.f12, loopsOf, ht, k4, k11, g12, hn, c1, c3, e, wrap64 ((i : Int) + 1) (by omega) (by omega)]
    exact ⟨m - 1, by omega, i + 1, by omega, by simp⟩

/-- The copies, as lists that grow. -/
theorem clone_gl {H : Heap} {x : Value} {xs : List Int} (h : SL H x xs) (hl : xs.length ≤ 1000000) :
    Gives (W.call 52 [x] H) fun o H' => ∃ v r, o = .val v ∧ GL H' v xs r ∧ (∀ i, r = some i → H.n ≤ i) ∧ Same (fun _ => False) H H' := by
  rw [c52, callB, bodyOf]
  obtain ⟨base, cap, rfl, ⟨rfl, rfl⟩ | ⟨r, off, own, tl, es, cs, rfl, h2⟩⟩ := id h
  · simp [Try.f52]
    exact ⟨none, GL.nil _, (fun i hi => by cases hi), Same.refl _ _⟩
  · obtain ⟨v, H', e1, ⟨r, h3, h4⟩, h5⟩ := dup_run intT h hl
    simp [Try.f52, e1]
    exact ⟨some r, h4, fun i hi => by simp at hi; omega, h5⟩
theorem entry_gl {H : Heap} {p : Nat} {r1 r2 : Option Nat} {s : Rg} (h : IsG H p r1 r2 s) (hl : s.size ≤ 900) : ∃ v r H', W.call 48 [ptr p] H = some (.val v, H') ∧ GL H' v s.entry r ∧ (∀ i, r = some i → H.n ≤ i) ∧ Same (fun _ => False) H H' := by
  obtain ⟨⟨v1, v2, g1, g2, g3⟩, n1, n2, n12⟩ := h
  unfold Rg.size at hl
  obtain ⟨o', H', e1, v', r, rfl, k1, k3, k2⟩ := clone_gl g2.sl (by omega)
  refine ⟨v', r, H', ?_, k1, k3, k2⟩
  rw [c48, callB, bodyOf]
  simp [Try.f48, g1, c63, callB, bodyOf, Try.f63, e1]

/-- The checks behind a step. -/
theorem tail_wp {H : Heap} {p : Nat} {r1 r2 rt : Option Nat} {s : Rg} {vt : Value} {th : List Int} {n : Nat} (T : IsG H p r1 r2 s) (G : GL H vt th rt) (I : Inv s th n) (hn : n ≤ 200) (hth : th.length ≤ n) (t : List Value) (l : List (Nat × Value)) (ht : t.length = 136) (h3 : look t 3 l = ptr p) (h4 : look t 4 l = vt) {Q : QA}
    (hQ : ∀ t2 l2 H2, t2.length = 136 → look t2 0 l2 = look t 0 l → look t2 3 l2 = look t 3 l → look t2 4 l2 = look t 4 l → look t2 5 l2 = look t 5 l → Same (fun _ => False) H H2 → Q .normal ⟨Fr t2 l2, []⟩ H2) :
    Ends (W.code T12 ⟨Fr t l, []⟩ H) Q := by
  have hsz := I.size
  obtain ⟨v1, rr1, H1, e1, s1, m1, f1⟩ := entry_gl T (by omega)
  have T1 := T.same f1 (fun _ _ h => h)
  obtain ⟨v2, H2, e2, s2, f2⟩ := waits_run T1 (by omega)
  have T2 := T1.same f2 (fun _ _ h => h)
  unfold Rg.size at hsz
  obtain ⟨v3, rr3, H3, e3, s3, f3, m3⟩ := grow_run intT (s1.same f2 (fun _ _ h => h)) s2 (by omega)
  have hn1 := f1.n
  have hn2 := f2.n
  have f03 : Same (fun _ => False) H H3 := by
    refine ⟨Nat.le_trans f1.n (Nat.le_trans f2.n f3.n), fun i hi _ => ?_⟩
    rw [f3.get i (by omega) (fun e => by have := m1 i e; omega), f2.get i (by omega) (fun h => h), f1.get i hi (fun h => h)]
  have T3 := T.same f03 (fun _ _ h => h)
  have o3 := occ_run T3
  have nm : s.inn ∉ s.entry ++ s.waits := by
    by_cases c : s.inn = 0
    · intro hm
      have := (I.rng 0 (by unfold Rg.all; rw [if_pos c, List.nil_append]; rw [c] at hm; exact hm)).1
      omega
    · have := I.nodup
      rw [all_in c, List.nodup_cons] at this
      exact this.1
  have hlen3 : ∀ (H' : Heap) (v : Value) (zs : List Int), SL H' v zs → ∀ H2, exLen Try.prog [37] v H2 = some (.int .i64 zs.length) := by
    rintro H' v zs ⟨base, cap, rfl, _⟩ H2
    simp [exLen, Try.underlying37]
  have lt := hlen3 _ _ _ G.sl
  have hlm : (s.entry ++ s.waits).length ≤ 1000000 := by simp; omega
  have hpl := I.perm.length_eq
  by_cases c : s.inn = 0
  · have hen := I.free c
    obtain ⟨v4, rr4, H4, e4, s4, m4, f4⟩ := entry_gl T3 (by unfold Rg.size; omega)
    have T4 := T3.same f4 (fun _ _ h => h)
    have o4 := occ_run T4
    have h4' := has_run (s3.sl.same f4.all) hlm s.inn
    rw [decide_eq_false nm] at h4'
    rw [hen] at s4
    have l4 := hlen3 _ _ _ s4.sl
    have l3 := hlen3 _ _ _ s3.sl
    simp at l4
    simp only [c] at o3 o4 h4'
    simp only [ptr_eq, iv_eq] at h3 e1 e2 e4 o3 o4
    have hla : (s.entry ++ s.waits).length = th.length := by unfold Rg.all at hpl; rw [if_pos c] at hpl; simpa using hpl
    rw [hla] at l3
    simp [T12, fstC, sndC, bodyC, loopN, Try.f12, loopsOf, ht, h3, h4, e1, e2, e3, o3, e4, l4, o4, h4', l3, lt]
    refine inner_loop (s3.sl.same f4.all) (G.sl.same (f03.trans f4).all) (by simp; omega) (by omega) ?_ _ (by simp [ht]) (by simp [ht]) (by simp [ht, h4]) (by simp [ht]) ?_
    · intro x hx
      have := I.perm.mem_iff.2 hx
      unfold Rg.all at this
      rw [if_pos c] at this
      simpa using this
    · intro t2 l2 ht2 q0 q3 q4 q5 p0 p3 p4 p5
      simp [ht2]
      exact hQ _ _ _ ht2 (by rw [p0, q0]; simp [ht]) (by rw [p3, q3]; simp [ht]) (by rw [p4, q4]; simp [ht]) (by rw [p5, q5]; simp [ht]) (f03.trans f4)
  · have h4' := has_run s3.sl hlm s.inn
    rw [decide_eq_false nm] at h4'
    have f4 := Same.push (fun _ => False) H3 (.row true 0 1 [.int .i64 s.inn])
    obtain ⟨v5, rr5, H5, e5, s5, f5, m5⟩ := grow_run intT (x := .slice (some ⟨H3.n, 0, none⟩) 1 1) (ys := [s.inn]) (s3.same f4 (fun _ _ h => h)) ⟨_, _, rfl, .inr ⟨H3.n, 0, true, 0, 1, _, rfl, by simp; rfl, by simp, by simp⟩⟩ (by simp; omega)
    have hn3 := f03.n
    have f05 : Same (fun _ => False) H H5 := by
      refine ⟨Nat.le_trans f03.n (Nat.le_trans f4.n f5.n), fun i hi _ => ?_⟩
      rw [f5.get i (Nat.lt_of_lt_of_le hi (Nat.le_trans f03.n f4.n)) (fun e => (m3 i e).elim (fun k => by have := m1 i k; omega) (fun k => by omega)), f4.get i (by omega) (fun h => h), f03.get i hi (fun h => h)]
    have l3 := hlen3 _ _ _ s5.sl
    simp only [ptr_eq, iv_eq] at h3 e1 e2 o3
    have hla : (s.entry ++ s.waits ++ [s.inn]).length = th.length := by rw [all_in c] at hpl; simp at hpl ⊢; omega
    rw [hla] at l3
    simp [T12, fstC, sndC, bodyC, loopN, Try.f12, loopsOf, ht, h3, h4, e1, e2, e3, o3, c, h4', e5, l3, lt]
    refine inner_loop s5.sl (G.sl.same f05.all) (by simp; omega) (by omega) ?_ _ (by simp [ht]) (by simp [ht]) (by simp [ht, h4]) (by simp [ht]) ?_
    · intro x hx
      have := I.perm.mem_iff.2 hx
      rw [all_in c] at this
      rcases List.mem_cons.1 this with rfl | h
      · simp
      · exact List.mem_append_left _ h
    · intro t2 l2 ht2 q0 q3 q4 q5 p0 p3 p4 p5
      simp [ht2]
      exact hQ _ _ _ ht2 (by rw [p0, q0]; simp [ht]) (by rw [p3, q3]; simp [ht]) (by rw [p4, q4]; simp [ht]) (by rw [p5, q5]; simp [ht]) f05

theorem bin_rem3 (ty : TypeId) (x y : Operand) (a : Int) : exBin Try.prog .rem ty x y (.int .i64 a) (.int .i64 3) = some (.int .i64 (a.tmod 3)) := bin_rem ty x y .i64 a 3 (by decide)
theorem one_loop {p : Nat} (len cap : Nat) (hl : len ≤ 120) (hc : len ≤ cap) (ls : List Value) (hls : ls.length = cap) (hint : ∀ c ∈ ls, isInt .i64 c) (t0 : List Value) (ht0 : t0.length = 136)
    (h0 : rd t0 0 = .slice (some ⟨0, 0, none⟩) len cap) (h3 : rd t0 3 = ptr p) (h5 : rd t0 5 = .int .i64 0) (H0 : Heap) (rt0 : Option Nat) (G0 : GL H0 (rd t0 4) [] rt0) (T0 : IsG H0 p none none ⟨0, [], []⟩) (hp0 : p ≠ 0) (hr0 : rt0 ≠ some 0) (hrp : rt0 ≠ some p) (hg0 : H0.get 0 = .row false 0 0 ls) {Q : QA}
    (hQ : ∀ t l H, t.length = 136 → Q (.exit 0) ⟨Fr t l, []⟩ H) :
    Ends (W.code (.loop (loopN Try.f12 0)) ⟨t0, []⟩ H0) Q := by
  refine loop_wp (fun m t H => ∃ i r1 r2 rt s th, i + m = len ∧ rd t 5 = .int .i64 (i : Nat) ∧ GL H (rd t 4) th rt ∧ IsG H p r1 r2 s ∧ Inv s th i ∧ th.length ≤ i ∧ H.get 0 = .row false 0 0 ls ∧ ¬ Ft p r1 r2 0 ∧ rt ≠ some 0 ∧ (∀ j, rt = some j → ¬ Ft p r1 r2 j)) len
    ⟨0, none, none, rt0, ⟨0, [], []⟩, [], by omega, by simpa using h5, G0, T0, ⟨by simp [Rg.all], by simp [Rg.all], by simp [Rg.all], fun _ => rfl⟩, by simp, hg0, ?_, hr0, ?_⟩ ?_
  · rintro (h | h | h) <;> first | (cases h; done) | exact hp0 h.symm
  · rintro j hj (h | h | h) <;> first | (cases h; done) | (subst h; exact hrp hj)
  rintro m t H hk ⟨i, r1, r2, rt, s, th, hi, g5, G, T, I, hth, hlst, hf0, hr0, hdj⟩
  have ht : t.length = 136 := hk.1.trans ht0
  have hh := hk.all [0, 3] (by decide +kernel)
  simp [h0, h3] at hh
  obtain ⟨g0, g3⟩ := hh
  have hsz := I.size
  by_cases hm : m = 0
  · subst hm
    simp [loopN, Try.f12, loopsOf, ht, g0, g5, show ¬ i < len by omega]
    exact hQ _ _ _ ht
  · obtain ⟨z, hz, _⟩ := hint (ls[i]'(by omega)) (List.getElem_mem _)
    have hz' : ls[i]? = some (.int .i64 z) := by rw [List.getElem?_eq_getElem (by omega), hz]
    have o1 := occ_run T
    -- the checks, and on
    have fin : ∀ (t' : List Value) (l : List (Nat × Value)) (H' : Heap) (r1' r2' rt' : Option Nat) (s' : Rg) (th' : List Int) (vt' : Value), t'.length = 136 → look t' 3 l = ptr p → look t' 4 l = vt' → look t' 5 l = .int .i64 i → IsG H' p r1' r2' s' → GL H' vt' th' rt' → Inv s' th' (i + 1) → th'.length ≤ i + 1 →
        H'.get 0 = .row false 0 0 ls → ¬ Ft p r1' r2' 0 → rt' ≠ some 0 → (∀ j, rt' = some j → ¬ Ft p r1' r2' j) →
        Ends (W.code T12 ⟨Fr t' l, []⟩ H') fun e s2 H2 => e = .normal ∧ ∃ t2 l2, s2 = ⟨Fr t2 l2, []⟩ ∧ t2.length = 136 ∧ look t2 5 l2 = .int .i64 i ∧ look t2 4 l2 = vt' ∧ GL H2 vt' th' rt' ∧ IsG H2 p r1' r2' s' ∧ H2.get 0 = .row false 0 0 ls := by
      intro t' l H' r1' r2' rt' s' th' vt' ht' a3 a4 a5 T' G' I' hth' k0 k1 k2 k3
      refine tail_wp T' G' I' (by omega) hth' t' l ht' a3 a4 ?_
      intro t2 l2 H2 ht2 q0 q3 q4 q5 f
      exact ⟨rfl, t2, l2, rfl, ht2, by rw [q5, a5], by rw [q4, a4], G'.same f (fun _ _ h => h), T'.same f (fun _ _ h => h), f.at k0 (by simp) (fun h => h)⟩
    by_cases cA : z.tmod 3 = 0 ∨ s.inn = 0
    · -- one more enters
      obtain ⟨o2, H2, e2, rfl, L2⟩ := enter_run T (by omega) (i + 1 : Nat)
      obtain ⟨hb, I2⟩ := inv_enter I
      obtain ⟨a1, a2, T2, f2, n2⟩ := L2
      have G2 := G.same f2 (fun j hj hx => hdj j hj hx)
      have f3 := Same.push (fun _ => False) H2 (.row true 0 1 [.int .i64 ((i : Int) + 1)])
      obtain ⟨v4, r4, H4, e4, G4, f4, n4⟩ := grow_run intT (x := .slice (some ⟨H2.n, 0, none⟩) 1 1) (ys := [((i + 1 : Nat) : Int)]) (G2.same f3 (fun _ _ h => h)) ⟨_, _, rfl, .inr ⟨H2.n, 0, true, 0, 1, _, rfl, by simp; rfl, by simp, by simp⟩⟩ (by simp; omega)
      have hdj2 : ∀ j, rt = some j → ¬ Ft p a1 a2 j := fun j hj hx => (n2 j hx).elim (hdj j hj) (fun k => by have := G.lt hj; omega)
      have T4 := (T2.same f3 (fun _ _ h => h)).same f4 (fun j hj hx => hdj2 j hx hj)
      have hn2 := f2.n
      have hn3 := f3.n
      have h0n : 0 < H.n := Heap.lt_of_get hlst (by simp)
      have l4 : H4.get 0 = .row false 0 0 ls := f4.at (f3.at (f2.at hlst (by simp) hf0) (by simp) (fun h => h)) (by simp) hr0
      have hz0 : ¬ Ft p a1 a2 0 := fun h => (n2 0 h).elim hf0 (fun k => by omega)
      have hr4 : r4 ≠ some 0 := fun e => (n4 0 e).elim hr0 (fun k => by omega)
      have hd4 : ∀ j, r4 = some j → ¬ Ft p a1 a2 j := fun j hj hx => (n4 j hj).elim (fun k => hdj2 j k hx) (fun k => by have := T2.lt j hx; omega)
      rw [hb] at e2
      simp only [ptr_eq, iv_eq, Int.natCast_add, Int.cast_ofNat_Int] at o1 e2 e4
      have hlth : (th ++ [((i + 1 : Nat) : Int)]).length ≤ i + 1 := by simp; omega
      have go := fun t' l ht' a3 a4 a5 => fin t' l H4 a1 a2 r4 _ _ v4 ht' a3 a4 a5 T4 G4 I2 hlth l4 hz0 hr4 hd4
      rw [body12]
      have fact : ∀ (P1 : Prop) [Decidable P1], (P1 ∨ s.inn = 0) → (P1 ∨ s.inn = 0) := fun _ _ h => h
      by_cases c1 : z.tmod 3 = 0
      · simp [fstC, sndC, bodyC, loopN, Try.f12, loopsOf, ht, g0, g3, g5, show i < len by omega, hlst, hz', o1, bin_rem3, c1, wrap64 ((i : Int) + 1) (by omega) (by omega), e2, e4]
        refine (go _ _ (by simp [ht]) (by simp [g3]) (by simp) (by simp [g5])).mono ?_
        rintro e s2 H5 ⟨rfl, t2, l2, rfl, ht2, b5, b4, G5, T5, l5⟩
        simp [ht2, b5, wrap64 ((i : Int) + 1) (by omega) (by omega)]
        exact ⟨m - 1, by omega, i + 1, by omega, by simp, a1, a2, r4, _, _, by rw [b4]; exact G5, T5, I2, hlth, l5, hz0, hr4, hd4⟩
      · have c2 : s.inn = 0 := cA.resolve_left c1
        simp [fstC, sndC, bodyC, loopN, Try.f12, loopsOf, ht, g0, g3, g5, show i < len by omega, hlst, hz', o1, bin_rem3, c1, c2, wrap64 ((i : Int) + 1) (by omega) (by omega), e2, e4]
        refine (go _ _ (by simp [ht]) (by simp [g3]) (by simp) (by simp [g5])).mono ?_
        rintro e s2 H5 ⟨rfl, t2, l2, rfl, ht2, b5, b4, G5, T5, l5⟩
        simp [ht2, b5, wrap64 ((i : Int) + 1) (by omega) (by omega)]
        exact ⟨m - 1, by omega, i + 1, by omega, by simp, a1, a2, r4, _, _, by rw [b4]; exact G5, T5, I2, hlth, l5, hz0, hr4, hd4⟩
    · have c1 : ¬ z.tmod 3 = 0 := fun h => cA (.inl h)
      have c2 : ¬ s.inn = 0 := fun h => cA (.inr h)
      have I1 : ∀ s' th', Inv s' th' i → Inv s' th' (i + 1) := fun s' th' h => ⟨h.perm, h.nodup, fun x hx => by have := h.rng x hx; omega, h.free⟩
      by_cases cB : z.tmod 3 = 1 ∨ z.tmod 3 = -1
      · -- the one in it waits
        obtain ⟨o2, H2, e2, rfl, L2⟩ := fail_run T (by omega) s.inn
        obtain ⟨hb, I2⟩ := inv_fail I c2
        obtain ⟨a1, a2, T2, f2, n2⟩ := L2
        have G2 := G.same f2 (fun j hj hx => hdj j hj hx)
        have hdj2 : ∀ j, rt = some j → ¬ Ft p a1 a2 j := fun j hj hx => (n2 j hx).elim (hdj j hj) (fun k => by have := G.lt hj; omega)
        have h0n : 0 < H.n := Heap.lt_of_get hlst (by simp)
        have l4 : H2.get 0 = .row false 0 0 ls := f2.at hlst (by simp) hf0
        have hz0 : ¬ Ft p a1 a2 0 := fun h => (n2 0 h).elim hf0 (fun k => by omega)
        rw [hb] at e2
        simp only [ptr_eq, iv_eq] at o1 e2
        have go := fun t' l ht' a3 a4 a5 => fin t' l H2 a1 a2 rt _ _ (rd t 4) ht' a3 a4 a5 T2 G2 (I1 _ _ I2) (by omega) l4 hz0 hr0 hdj2
        rw [body12]
        by_cases c3 : z.tmod 3 = 1
        · simp [fstC, sndC, bodyC, loopN, Try.f12, loopsOf, ht, g0, g3, g5, show i < len by omega, hlst, hz', o1, bin_rem3, c2, c3, wrap64 ((i : Int) + 1) (by omega) (by omega), e2]
          refine (go _ _ (by simp [ht]) (by simp [g3]) (by simp) (by simp [g5])).mono ?_
          rintro e s2 H5 ⟨rfl, t2, l2, rfl, ht2, b5, b4, G5, T5, l5⟩
          simp [ht2, b5, wrap64 ((i : Int) + 1) (by omega) (by omega)]
          exact ⟨m - 1, by omega, i + 1, by omega, by simp, a1, a2, rt, _, _, by rw [b4]; exact G5, T5, I1 _ _ I2, by omega, l5, hz0, hr0, hdj2⟩
        · have c4 : z.tmod 3 = -1 := cB.resolve_left c3
          simp [fstC, sndC, bodyC, loopN, Try.f12, loopsOf, ht, g0, g3, g5, show i < len by omega, hlst, hz', o1, bin_rem3, c2, c4, wrap64 ((i : Int) + 1) (by omega) (by omega), e2]
          refine (go _ _ (by simp [ht]) (by simp [g3]) (by simp) (by simp [g5])).mono ?_
          rintro e s2 H5 ⟨rfl, t2, l2, rfl, ht2, b5, b4, G5, T5, l5⟩
          simp [ht2, b5, wrap64 ((i : Int) + 1) (by omega) (by omega)]
          exact ⟨m - 1, by omega, i + 1, by omega, by simp, a1, a2, rt, _, _, by rw [b4]; exact G5, T5, I1 _ _ I2, by omega, l5, hz0, hr0, hdj2⟩
      · -- the one in it leaves
        have c3 : ¬ z.tmod 3 = 1 := fun h => cB (.inl h)
        have c4 : ¬ z.tmod 3 = -1 := fun h => cB (.inr h)
        obtain ⟨o2, H2, e2, rfl, L2⟩ := leave_run T (by omega) s.inn
        obtain ⟨hb, I2⟩ := inv_leave I c2
        obtain ⟨a1, a2, T2, f2, n2⟩ := L2
        have G2 := G.same f2 (fun j hj hx => hdj j hj hx)
        obtain ⟨o3, H3, e3, v3, r3, rfl, G3, m3, f3⟩ := without_run G2.sl (by omega) s.inn
        have T3 := T2.same f3 (fun _ _ h => h)
        have h0n : 0 < H.n := Heap.lt_of_get hlst (by simp)
        have hn2 := f2.n
        have l4 : H3.get 0 = .row false 0 0 ls := f3.at (f2.at hlst (by simp) hf0) (by simp) (fun h => h)
        have hz0 : ¬ Ft p a1 a2 0 := fun h => (n2 0 h).elim hf0 (fun k => by omega)
        have hr3 : r3 ≠ some 0 := fun e => by have := m3 0 e; omega
        have hd3 : ∀ j, r3 = some j → ¬ Ft p a1 a2 j := fun j hj hx => by have := m3 j hj; have := T2.lt j hx; omega
        have hlf : (th.filter (fun y => decide (y ≠ s.inn))).length ≤ i + 1 := Nat.le_trans (List.length_filter_le _ _) (by omega)
        rw [hb] at e2
        simp only [ptr_eq, iv_eq] at o1 e2
        have go := fun t' l ht' a3 a4 a5 => fin t' l H3 a1 a2 r3 _ _ v3 ht' a3 a4 a5 T3 G3 (I1 _ _ I2) hlf l4 hz0 hr3 hd3
        rw [body12]
        simp [fstC, sndC, bodyC, loopN, Try.f12, loopsOf, ht, g0, g3, g5, show i < len by omega, hlst, hz', o1, bin_rem3, c1, c2, c3, c4, wrap64 ((i : Int) + 1) (by omega) (by omega), e2, e3]
        refine (go _ _ (by simp [ht]) (by simp [g3]) (by simp) (by simp [g5])).mono ?_
        rintro e s2 H5 ⟨rfl, t2, l2, rfl, ht2, b5, b4, G5, T5, l5⟩
        simp [ht2, b5, wrap64 ((i : Int) + 1) (by omega) (by omega)]
        exact ⟨m - 1, by omega, i + 1, by omega, by simp, a1, a2, r3, _, _, by rw [b4]; exact G5, T5, I1 _ _ I2, hlf, l5, hz0, hr3, hd3⟩
theorem one_walk (x : Value) (o : AObj) (fa : FlatArg (isInt .i64) 1 0 x o) : Gives (W.call 12 [x] (Heap.empty.push o)) fun o _ => o = .val (.bool true) := by
  obtain ⟨base, len, cap, ls, rfl, hc, _, hls, hint, hb⟩ := fa
  rw [c12, callB, bodyOf]
  by_cases c0 : (120 : Int) < len
  · simp [Try.f12, awake_true, c0]
  obtain ⟨o1, H1, e1, rfl, g1, f1⟩ := new_ok (Heap.empty.push o)
  simp only [ptr_eq] at e1
  simp [Try.f12, awake_true, c0, e1]
  rcases hb with ⟨rfl, rfl, rfl, rfl⟩ | ⟨rfl, rfl⟩
  · rw [code_loop]
    simp [awake_true]
  · have hg : (Heap.empty.push (.row false 0 0 ls)).get 0 = .row false 0 0 ls := Heap.get_push_self Heap.empty _
    have f2 := Same.push (fun _ => False) H1 (.row true 0 1 [])
    have hn1 : (Heap.empty.push (.row false 0 0 ls)).n = 1 := rfl
    have hlt := g1.lt _ (.inl rfl)
    refine one_loop len cap (by omega) hc ls (by omega) hint _ (by simp [len_Bs]) (by simp) (by simp) (by simp) _ (some H1.n) ?_ (g1.same f2 (fun _ _ h => h)) (by rw [hn1]; decide) (fun h => by injection h with h; rw [h] at hlt; simp at hlt) (fun h => by injection h with h; rw [h] at hlt; exact absurd hlt (Nat.lt_irrefl _)) (f2.at (f1.at hg (by simp) (fun h => h)) (by simp) (fun h => h)) ?_
    · simp
      exact .inr ⟨H1.n, 0, [], 0, rfl, rfl, by simp, by simp, by simp, .inl rfl⟩
    · intro t l H ht
      simp [ht, awake_true]
end Go.Vm.RegionLaw
