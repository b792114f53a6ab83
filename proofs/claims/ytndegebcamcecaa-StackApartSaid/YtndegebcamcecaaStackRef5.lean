/- What is proved: what the reference's stack turns at a call. -/
import Derived.Test.YtndegebcamcecaaStackRef4
namespace Go.Vm.StackLaw
open Go Go.Proofs
set_option maxRecDepth 100000
set_option linter.unusedSimpArgs false
attribute [local simp] repCells_succ writeAt rd_Fr
theorem CL.same {X : Nat → Prop} {H H' : Heap} {v : Value} {xs : List Int} {rr : Option Nat} (h : CL H v xs rr) (f : Same X H H') (hx : ∀ i, rr = some i → ¬ X i) : CL H' v xs rr := by
  obtain ⟨base, h1, h2 | ⟨r, off, own, tl, cs, h0, h2, h3, h4⟩⟩ := h
  · exact ⟨base, h1, .inl h2⟩
  · exact ⟨base, h1, .inr ⟨r, off, own, tl, cs, h0, h2, f.at h3 (by simp) (hx r h0), h4⟩⟩
/-- All frames, appended to an empty slice. -/
theorem rapp1 {H : Heap} {fr n cap tl : Nat} {cs : List Value} (h : H.get fr = .row true tl 3 cs) (hl : n * 3 ≤ cs.length) (h0 : n ≠ 0) (hn : n ≤ 10000) :
    exAppend Try.prog [64, 64] (.slice (some ⟨H.n, 0, none⟩) 0 0) (.slice (some ⟨fr, 0, none⟩) n cap) (H.push (.row true 0 3 [])) = some (.slice (some ⟨H.n + 1, 0, none⟩) n n, (H.push (.row true 0 3 [])).push (.row true 1 3 (cs.take (n * 3)))) := by
  have hf := Heap.lt_of_get h (by simp)
  simp [exAppend, Try.underlying64, lenA, cellsOf, Heap.get_push, show ¬ fr = H.n by omega, h, hl, h0, show (n + 200) * 56 ≤ 140737488355328 by omega, show n ≤ 140737488355328 by omega]
/-- One more frame. -/
theorem rapp2 {H : Heap} {a n : Nat} {ds gs : List Value} (h : H.get a = .row true 1 3 ds) (hl : ds.length = n * 3) (hg : gs.length = 3) (hn : n ≤ 10000) :
    exAppend Try.prog [64, 64] (.slice (some ⟨a, 0, none⟩) n n) (.slice (some ⟨H.n, 0, none⟩) 1 1) (H.push (.row true 0 3 gs)) = some (.slice (some ⟨H.n + 1, 0, none⟩) (n + 1) (n + 1), ((H.push (.row true 0 3 gs)).set a .dead).push (.row true 1 3 (ds ++ gs))) := by
  have hf := Heap.lt_of_get h (by simp)
  simp [exAppend, Try.underlying64, lenA, cellsOf, Heap.get_push, show ¬ a = H.n by omega, h, hl, hg, show (n + 1 + 200) * 56 ≤ 140737488355328 by omega, show n + 1 ≤ 140737488355328 by omega, show ¬ n + 1 ≤ n by omega]
  rw [List.take_of_length_le (by omega), List.take_of_length_le (by omega)]
section
variable {H : Heap} {t fr size : Nat} {f : RF} {fs : List RF} (h : RS H t fr size (f :: fs))
set_option linter.unusedSectionVars false
include h
theorem rcall_run (hl : fs.length ≤ 9999) (hb : tot (f :: fs) ≤ 1000000) (hsz : size ≤ 1000000) (back : Int) (p n : Nat) (h2 : p ≤ f.ops.length) (h3 : tot (f :: fs) + 2 + n ≤ size) (h4 : f.ops.length ≤ 900000) (h5 : p + n ≤ size) :
    ∃ H' fr' lv ov l o, W.call 30 [ptr t, iv back, iv p, iv (p + n : Nat)] H = some (.val (iv 0), H') ∧
      RS H' t fr' size (⟨back, lv, .slice none 0 0, f.ops.drop (f.ops.length - p) ++ List.replicate n 0, [], some l, none⟩ :: { f with ov := ov, ops := f.ops.take (f.ops.length - p), oi := some o } :: fs) ∧
      Same (fun i => i = t ∨ i = fr ∨ f.oi = some i) H H' ∧ H.n ≤ fr' ∧ H.n ≤ l ∧ H.n ≤ o := by
  have e := rops_run h (by omega)
  have e2 := rlen_run h (by simp only [List.length_cons]; omega) hb
  obtain ⟨cap, cs, tl, b1, c1, b2, c2, g1, g2, g3, g4, q0, q1, q2, e5, e6⟩ := RS.top h
  obtain ⟨n1, n2, n3, n4, n5, n6⟩ := (nd_iff _ _ _ _).1 h.nd
  have ht := Heap.lt_of_get g1 (by simp)
  have hf := Heap.lt_of_get g2 (by simp)
  -- the locals
  have fa := Same.push (fun _ => False) H (.row true 0 1 (repCells (p + n) [.int .i64 0]))
  have ga := Heap.get_push_self H (.row true 0 1 (repCells (p + n) [.int .i64 0]))
  rw [repCells_one] at fa ga
  have gla := (h.ok f (by simp)).2.same fa (fun _ _ h => h)
  have g1a := fa.at g1 (by simp) (fun h => h)
  have g2a := fa.at g2 (by simp) (fun h => h)
  have hna : (H.push (.row true 0 1 (List.replicate (p + n) (.int .i64 0)))).n = H.n + 1 := rfl
  generalize hHa : H.push (.row true 0 1 (List.replicate (p + n) (.int .i64 0))) = Ha at *
  obtain ⟨bs, bc, Hb, eb, sb, clb, fb⟩ := CL.rest gla (f.ops.length - p) (by omega)
  have hoi : ∀ i, f.oi = some i → i < H.n := fun i hi => (h.ok f (by simp)).lt (.inr hi)
  have g1b := fb.at g1a (by simp) (fun e => (n5 t (.inr e)).1 rfl)
  have g2b := fb.at g2a (by simp) (fun e => (n5 fr (.inr e)).2.1 rfl)
  have gab := fb.at ga (by simp) (fun e => by have := hoi _ e; omega)
  have hnb : H.n < Hb.n := Heap.lt_of_get gab (by simp)
  have hc := sb.cells
  rw [show f.ops.length - (f.ops.length - p) = p by omega] at eb sb hc
  have hlc : (f.ops.drop (f.ops.length - p)).length = p := by simp; omega
  rw [hlc] at hc
  have fc := Same.set (X := (· = H.n)) Hb hnb rfl (.row true 0 1 ((f.ops.drop (f.ops.length - p) ++ List.replicate n 0).map iv))
  have ec : exCopy Try.prog [34, 34] (.slice (some ⟨H.n, 0, none⟩) (p + n) (p + n)) (.slice bs p bc) Hb = some (.int .i64 p, Hb.set H.n (.row true 0 1 ((f.ops.drop (f.ops.length - p) ++ List.replicate n 0).map iv))) := by
    simp [exCopy, lenA, hc, gab, show p ≤ p + n by omega, hlc]
    rw [show p + n - (f.ops.length - (f.ops.length - p)) = n by omega]
  have g1c := fc.at g1b (by simp) (fun e => by omega)
  have g2c := fc.at g2b (by simp) (fun e => by omega)
  have gac : (Hb.set H.n (.row true 0 1 ((f.ops.drop (f.ops.length - p) ++ List.replicate n 0).map iv))).get H.n = _ := Heap.get_set_self _ _ hnb
  have clc := clb.same fc (fun i hi e => by have := hoi i hi; omega)
  have e7 := rtop_of g1a (by omega)
  have e8 := rtop_of g1c (by omega)
  generalize hHc : Hb.set H.n (.row true 0 1 ((f.ops.drop (f.ops.length - p) ++ List.replicate n 0).map iv)) = Hc at *
  rw [e6] at clc eb
  obtain ⟨s1, s2⟩ := clc.cut (f.ops.length - p) (by omega)
  obtain ⟨v, Hd, r1, e4, hr1, gd, fd⟩ := copy_run s2 (by simp; omega)
  have g1d := fd.at g1c (by simp) (fun h => h)
  have g2d := fd.at g2c (by simp) (fun h => h)
  have gad := fd.at gac (by simp) (fun h => h)
  have fHd : Same (fun i => f.oi = some i) H Hd := (((fa.mono fun i h => h.elim).trans fb).young fc (fun i hi => by omega)).trans (fd.mono fun i h => h.elim)
  have hr2 : H.n ≤ r1 := by have := fc.n; omega
  obtain ⟨he, fe⟩ := RS.setops h fHd g2 v (f.ops.take (f.ops.length - p)) r1 gd hr2
  have hfd : fr < Hd.n := Heap.lt_of_get g2d (by simp)
  have fe2 := Same.set (X := (· = fr)) Hd hfd rfl (.row true tl 3 (cs.set (fs.length * 3 + 2) v))
  have g1e := fe2.at g1d (by simp) n1
  have gae := fe2.at gad (by simp) (fun e => by omega)
  have gfe := Heap.get_set_self Hd (.row true tl 3 (cs.set (fs.length * 3 + 2) v)) hfd
  have nHe : H.n < (Hd.set fr (.row true tl 3 (cs.set (fs.length * 3 + 2) v))).n := by have := Heap.lt_of_get gae (by simp); omega
  have hcs : (cs.set (fs.length * 3 + 2) v).take ((fs.length + 1) * 3) = flatG ({ f with ov := v, ops := f.ops.take (f.ops.length - p), oi := some r1 } :: fs) := by
    obtain ⟨⟨cap', cs', tl', _, h2', _, _, h5'⟩, _, _⟩ := he
    rw [gfe] at h2'
    cases h2'
    exact h5'
  have hw := writeAt_one cs (fs.length * 3 + 2) v (by omega)
  generalize hHe : Hd.set fr (.row true tl 3 (cs.set (fs.length * 3 + 2) v)) = He at *
  have a1 := rapp1 (n := fs.length + 1) (cap := cap) gfe (by simp; omega) (by omega) (by omega)
  rw [hcs] at a1
  generalize hL : flatG ({ f with ov := v, ops := f.ops.take (f.ops.length - p), oi := some r1 } :: fs) = FL at *
  have hFL : FL.length = (fs.length + 1) * 3 := by rw [← hL, flatG_len]; rfl
  have a2 := rapp2 (H := (He.push (.row true 0 3 [])).push (.row true 1 3 FL)) (a := He.n + 1) (n := fs.length + 1) (ds := FL) (gs := [iv back, .slice (some ⟨H.n, 0, none⟩) (p + n) (p + n), .slice none 0 0]) (Heap.get_push_self (He.push _) _) hFL rfl (by omega)
  have fx1 := ((Same.push (fun _ => False) He (.row true 0 3 [])).trans (Same.push (fun _ => False) _ (.row true 1 3 FL))).trans (Same.push (fun _ => False) _ (.row true 0 3 [iv back, .slice (some ⟨H.n, 0, none⟩) (p + n) (p + n), .slice none 0 0]))
  have hxn : He.n + 1 < (((He.push (.row true 0 3 [])).push (.row true 1 3 FL)).push (.row true 0 3 [iv back, .slice (some ⟨H.n, 0, none⟩) (p + n) (p + n), .slice none 0 0])).n := by simp
  have fx := (fx1.young (Same.set (X := (· = He.n + 1)) _ hxn rfl .dead) (fun i hi => by omega)).trans (Same.push (fun _ => False) _ (.row true 1 3 (FL ++ [iv back, .slice (some ⟨H.n, 0, none⟩) (p + n) (p + n), .slice none 0 0])))
  have g1x := fx.at g1e (by simp) (fun h => h)
  have gax := fx.at gae (by simp) (fun h => h)
  have hn2 : ((He.push (.row true 0 3 [])).push (.row true 1 3 FL)).n + 1 = He.n + 3 := rfl
  have gfx : (((((He.push (.row true 0 3 [])).push (.row true 1 3 FL)).push (.row true 0 3 [iv back, .slice (some ⟨H.n, 0, none⟩) (p + n) (p + n), .slice none 0 0])).set (He.n + 1) .dead).push (.row true 1 3 (FL ++ [iv back, .slice (some ⟨H.n, 0, none⟩) (p + n) (p + n), .slice none 0 0]))).get (He.n + 3) = .row true 1 3 (FL ++ [iv back, .slice (some ⟨H.n, 0, none⟩) (p + n) (p + n), .slice none 0 0]) := Heap.get_push_self _ _
  rw [hn2] at a2
  generalize hHx : ((((He.push (.row true 0 3 [])).push (.row true 1 3 FL)).push (.row true 0 3 [iv back, .slice (some ⟨H.n, 0, none⟩) (p + n) (p + n), .slice none 0 0])).set (He.n + 1) .dead).push (.row true 1 3 (FL ++ [iv back, .slice (some ⟨H.n, 0, none⟩) (p + n) (p + n), .slice none 0 0])) = Hx at *
  have htx : t < Hx.n := Heap.lt_of_get g1x (by simp)
  have fg := Same.set (X := (· = t)) Hx htx rfl (.row true 0 1 [iv size, .slice (some ⟨He.n + 3, 0, none⟩) (fs.length + 2) (fs.length + 2)])
  have hea : (iv back :: .slice (some ⟨H.n, 0, none⟩) (p + n) (p + n) :: [.slice none 0 0] : List Value) = [iv back, .slice (some ⟨H.n, 0, none⟩) (p + n) (p + n), .slice none 0 0] := rfl
  have hr3 : H.n < r1 := by have := fc.n; omega
  have hll : (f.ops.drop (f.ops.length - p) ++ List.replicate n (0 : Int)).length = p + n := by simp; omega
  refine ⟨_, He.n + 3, .slice (some ⟨H.n, 0, none⟩) (p + n) (p + n), v, H.n, r1, ?_, ⟨⟨fs.length + 2, _, 1, Heap.get_set_self _ _ htx, fg.at gfx (by simp) (by omega), ?_, Nat.le_refl _, ?_⟩, fun g hg => ?_, (nd_iff _ _ _ _).2 ?_⟩, (fe.mono fun i h => .inr h).trans ((fx.mono fun i h => h.elim).trans (fg.mono fun i h => .inl h)), by omega, Nat.le_refl _, by omega⟩
  · have key : Gives (W.call 30 [ptr t, iv back, iv p, iv (p + n : Nat)] H) fun o H' => o = .val (iv 0) ∧ H' = Hx.set t (.row true 0 1 [iv size, .slice (some ⟨He.n + 3, 0, none⟩) (fs.length + 2) (fs.length + 2)]) := by
      obtain ⟨b', c', rfl⟩ := GL.slice gd
      generalize (f.ops.take (f.ops.length - p)).length = ln at *
      simp only [writeAt] at hw
      simp at hw
      clear he h fa fb fc fd fHd fe fe2 fx1 fx fg gla sb clb s2 gd clc n5 n6 n4
      generalize tot (f :: fs) = T at *
      simp only [ptr_eq, iv_eq, Int.natCast_add] at e e2 g1 e7 e8 e4 g1a g1b g1c g1d g1e g1x a1 a2 hHx
      rw [show ((f.ops.length - p : Nat) : Int) = (f.ops.length : Int) - p by omega] at eb s1
      rw [c30, callB, bodyOf]
      simp [Try.f30, show ¬ (p : Int) < 0 by omega, show ¬ (p : Int) + n < p by omega, e, show ¬ f.ops.length < p by omega]
      refine region_plan (by exact r30) ?_
      simp [g1, show ¬ (size : Int) < (p : Int) + n by omega, e2, wrap64 ((T : Int) + 2) (by omega) (by omega), wrap64 ((T : Int) + 2 + (p + n)) (by omega) (by omega), show (T : Int) + 2 + (p + n) - p = T + 2 + n by omega, wrap64 ((T : Int) + 2 + n) (by omega) (by omega), show ¬ (size : Int) < T + 2 + n by omega]
      simp [repCells_one, show 0 ≤ (p : Int) + n by omega, show (p : Int) + n ≤ 9223372036854775807 by omega, show 8 * ((p : Int) + n) ≤ 281474976710656 by omega, show ((p : Int) + n).toNat = p + n by omega, hHa, e7, g2a, q2,
        wrap64 ((f.ops.length : Int) - p) (by omega) (by omega)]
      simp [eb, ec, e8, g2c, q2, wrap64 ((f.ops.length : Int) - p) (by omega) (by omega), s1, e4, g2d, hw, show fs.length * 3 + 2 + 1 ≤ cs.length by omega, hHe]
      have hte := Heap.lt_of_get g1e (by simp)
      simp at a2
      simp [Heap.get_push_lt _ _ hte, g1e, a1, a2, g1x]
    obtain ⟨o, H', e, rfl, rfl⟩ := key
    exact e
  · simp [hFL]; omega
  · rw [flatG, hL]
    exact List.take_of_length_le (by simp [hFL]; omega)
  · rcases List.mem_cons.1 hg with rfl | hg
    · exact ⟨.inr ⟨H.n, rfl, by rw [hll], fg.at gax (by simp) (by omega)⟩, .inl ⟨rfl, rfl, rfl⟩⟩
    · exact ((he.ok g hg).same fx (fun _ _ h => h)).same fg (fun i hi e => by
        have := he.nd
        simp only [List.nodup_cons, List.mem_cons, not_or] at this
        exact this.1.2 (by rw [← e]; exact mem_rows hg hi))
  · have hnd := he.nd
    simp only [List.nodup_cons, List.mem_cons, not_or] at hnd
    refine ⟨by omega, hnd.1.2, fun e => ?_, hnd.2.2, fun i hi => ?_, fun i hi e => by cases e⟩
    · have := he.lt (i := He.n + 3) (by simp [e]); omega
    · have hi' : i = H.n := by rcases hi with hi | hi <;> cases hi; rfl
      subst hi'
      refine ⟨by omega, by omega, fun e => ?_⟩
      rw [rowsOf_cons] at e
      simp only [List.mem_append, Option.mem_toList] at e
      rcases e with (e | e) | e
      · have := h.lt (i := H.n) (by simp [rowsOf_cons, e]); omega
      · cases e; omega
      · have := h.lt (i := H.n) (by simp [rowsOf_cons, e]); omega
end
end Go.Vm.StackLaw
