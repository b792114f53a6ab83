/- What is proved: what the reference's stack hands back, and what it turns. -/
import Derived.Test.YtndegebcamcecaaStackFrames
namespace Go.Vm.StackLaw
open Go Go.Proofs
set_option maxRecDepth 100000
set_option linter.unusedSimpArgs false
attribute [local simp] repCells_succ writeAt rd_Fr
theorem T34 : IntT Try.prog 34 3 := ⟨by simp, by simp, by simp, by simp, Try.underlying34⟩
theorem _root_.Go.Vm.Same.young {X Y : Nat → Prop} {A B C : Heap} (h : Same Y A B) (k : Same X B C) (hx : ∀ i, X i → A.n ≤ i) : Same Y A C :=
  ⟨Nat.le_trans h.n k.n, fun i hi hy => (k.get i (Nat.lt_of_lt_of_le hi h.n) (fun hxi => absurd (hx i hxi) (by omega))).trans (h.get i hi hy)⟩
/-- A frame of the reference. -/
structure RF where
  back : Int
  lv : Value
  ov : Value
  locs : List Int
  ops : List Int
  li : Option Nat
  oi : Option Nat
def cellsR (f : RF) : List Value := [iv f.back, f.lv, f.ov]
/-- The frames' cells, of a list whose first one is the innermost. -/
def flatG : List RF → List Value
  | [] => []
  | f :: fs => flatG fs ++ cellsR f
theorem flatG_len (fs : List RF) : (flatG fs).length = fs.length * 3 := by
  induction fs with
  | nil => rfl
  | cons f fs ih => simp [flatG, ih, cellsR]; omega
theorem flatG_app (xs ys : List RF) : flatG (xs ++ ys) = flatG ys ++ flatG xs := by
  induction xs with
  | nil => simp [flatG]
  | cons x xs ih => simp [flatG, ih]
def LocOK (H : Heap) (f : RF) : Prop := (f.lv = .slice none 0 0 ∧ f.locs = [] ∧ f.li = none) ∨ ∃ id, f.li = some id ∧ f.lv = .slice (some ⟨id, 0, none⟩) f.locs.length f.locs.length ∧ H.get id = .row true 0 1 (f.locs.map iv)
def FrG (H : Heap) (f : RF) : Prop := LocOK H f ∧ GL H f.ov f.ops f.oi
def rowsOf (fs : List RF) : List Nat := fs.flatMap fun f => f.li.toList ++ f.oi.toList
theorem mem_rows {fs : List RF} {f : RF} (hf : f ∈ fs) {i : Nat} (hi : f.li = some i ∨ f.oi = some i) : i ∈ rowsOf fs :=
  List.mem_flatMap.2 ⟨f, hf, by rcases hi with h | h <;> simp [h]⟩
theorem rows_mem {fs : List RF} {i : Nat} (h : i ∈ rowsOf fs) : ∃ f ∈ fs, f.li = some i ∨ f.oi = some i := by
  obtain ⟨f, hf, hi⟩ := List.mem_flatMap.1 h
  refine ⟨f, hf, ?_⟩
  rcases List.mem_append.1 hi with h | h
  · exact .inl (Option.mem_toList.1 h)
  · exact .inr (Option.mem_toList.1 h)
structure RS (H : Heap) (t fr size : Nat) (fs : List RF) : Prop where
  hd : ∃ cap cs tl, H.get t = .row true 0 1 [iv size, .slice (some ⟨fr, 0, none⟩) fs.length cap] ∧ H.get fr = .row true tl 3 cs ∧ fs.length * 3 ≤ cs.length ∧ fs.length ≤ cap ∧ cs.take (fs.length * 3) = flatG fs
  ok : ∀ f ∈ fs, FrG H f
  nd : (t :: fr :: rowsOf fs).Nodup
theorem LocOK.same {X : Nat → Prop} {H H' : Heap} {f : RF} (h : LocOK H f) (k : Same X H H') (hx : ∀ i, f.li = some i → ¬ X i) : LocOK H' f := by
  refine h.imp id ?_
  rintro ⟨id, h0, h1, h2⟩
  exact ⟨id, h0, h1, k.at h2 (by simp) (hx id h0)⟩
theorem FrG.same {X : Nat → Prop} {H H' : Heap} {f : RF} (h : FrG H f) (k : Same X H H') (hx : ∀ i, f.li = some i ∨ f.oi = some i → ¬ X i) : FrG H' f :=
  ⟨h.1.same k fun i hi => hx i (.inl hi), h.2.same k fun i hi => hx i (.inr hi)⟩
theorem RS.same {X : Nat → Prop} {H H' : Heap} {t fr size : Nat} {fs : List RF} (h : RS H t fr size fs) (k : Same X H H') (hx : ∀ i ∈ t :: fr :: rowsOf fs, ¬ X i) : RS H' t fr size fs := by
  obtain ⟨⟨cap, cs, tl, h1, h2, h3⟩, h4, h5⟩ := h
  exact ⟨⟨cap, cs, tl, k.at h1 (by simp) (hx t (by simp)), k.at h2 (by simp) (hx fr (by simp)), h3⟩, fun f hf => (h4 f hf).same k fun i hi => hx i (by simp [mem_rows hf hi]), h5⟩
theorem FrG.lt {H : Heap} {f : RF} (h : FrG H f) {i : Nat} (hi : f.li = some i ∨ f.oi = some i) : i < H.n := by
  rcases hi with hi | hi
  · rcases h.1 with ⟨_, _, h0⟩ | ⟨id, h0, _, h2⟩
    · rw [h0] at hi; cases hi
    · rw [h0] at hi; cases hi; exact Heap.lt_of_get h2 (by simp)
  · exact h.2.lt hi
theorem RS.lt {H : Heap} {t fr size : Nat} {fs : List RF} (h : RS H t fr size fs) {i : Nat} (hi : i ∈ t :: fr :: rowsOf fs) : i < H.n := by
  obtain ⟨⟨cap, cs, tl, h1, h2, h3⟩, h4, h5⟩ := h
  rcases List.mem_cons.1 hi with rfl | hi
  · exact Heap.lt_of_get h1 (by simp)
  rcases List.mem_cons.1 hi with rfl | hi
  · exact Heap.lt_of_get h2 (by simp)
  obtain ⟨f, hf, hi⟩ := rows_mem hi
  exact (h4 f hf).lt hi
theorem GL.slice {H : Heap} {v : Value} {xs : List Int} {r : Option Nat} (h : GL H v xs r) : ∃ b c, v = .slice b xs.length c := by
  rcases h with ⟨rfl, rfl, _⟩ | ⟨id, off, cs, tl, _, rfl, _⟩ <;> exact ⟨_, _, rfl⟩
theorem LocOK.slice {H : Heap} {f : RF} (h : LocOK H f) : ∃ b c, f.lv = .slice b f.locs.length c := by
  rcases h with ⟨h1, h2, _⟩ | ⟨id, _, h1, _⟩
  · exact ⟨none, 0, by rw [h1, h2]; rfl⟩
  · exact ⟨_, _, h1⟩
/-- A frame's cells. -/
theorem flat_at {cs : List Value} {fs pre rest : List RF} {g : RF} (he : fs = pre ++ g :: rest) (ht : cs.take (fs.length * 3) = flatG fs) (hl : fs.length * 3 ≤ cs.length) :
    cs[rest.length * 3]? = some (iv g.back) ∧ cs[rest.length * 3 + 1]? = some g.lv ∧ cs[rest.length * 3 + 2]? = some g.ov := by
  have hlen : fs.length = pre.length + rest.length + 1 := by rw [he]; simp; omega
  have key : ∀ j, j < 3 → cs[rest.length * 3 + j]? = (cellsR g)[j]? := fun j hj => by
    have := congrArg (·[rest.length * 3 + j]?) ht
    simp only [List.getElem?_take] at this
    rw [if_pos (by omega)] at this
    rw [this, he, flatG_app, flatG, List.append_assoc, List.getElem?_append_right (by rw [flatG_len]; omega), flatG_len, List.getElem?_append_left (by simp [cellsR]; omega)]
    congr 1; omega
  exact ⟨key 0 (by omega), key 1 (by omega), key 2 (by omega)⟩
/-- How many words. -/
def tot : List RF → Nat
  | [] => 0
  | f :: fs => f.ops.length + (if fs = [] then 0 else 2 + f.locs.length) + tot fs
theorem r42 : quiet Try.prog (drawN Try.f42 0) = true := by decide +kernel
theorem r28 : planOf Try.prog (drawN Try.f28 0) = some [none, none, (some (0, 1)), (some (0, 1)), (some (0, 1)), (some (0, 1)), none] := by decide +kernel
theorem r30 : planOf Try.prog (drawN Try.f30 0) = some [none, none, none, none, none, none, none, none, none, none, (some (0, 1)), none, (some (0, 1)), none, (some (0, 1)), (some (0, 1)), (some (0, 1)), (some (0, 1)), none, none] := by decide +kernel
section
variable {H : Heap} {t fr size : Nat} {fs : List RF} (h : RS H t fr size fs)
set_option linter.unusedSectionVars false
include h
theorem rtop_run {f : RF} {fs' : List RF} (hf : fs = f :: fs') (hl : fs'.length ≤ 10000) : W.call 42 [ptr t] H = some (.val (.pointer (some ⟨fr, fs'.length * 3, none⟩)), H) := by
  have key : Gives (W.call 42 [ptr t] H) fun o H' => o = .val (.pointer (some ⟨fr, fs'.length * 3, none⟩)) ∧ H' = H := by
    obtain ⟨⟨cap, cs, tl, h1, h2, h3, h4, h5⟩, _, _⟩ := h
    subst hf
    simp only [ptr_eq, iv_eq, List.length_cons] at h1
    rw [c42, callB, bodyOf]
    simp [Try.f42]
    refine region_quiet (by exact r42) ?_
    simp [h1, wrap64 (fs'.length : Int) (by omega) (by omega), show (fs'.length : Int) < fs'.length + 1 by omega]
  obtain ⟨o, H', e, rfl, rfl⟩ := key
  exact e
theorem rlen_run (hl : fs.length ≤ 10000) (hb : tot fs ≤ 1000000) : W.call 34 [ptr t] H = some (.val (iv (tot fs)), H) := by
  have key : Gives (W.call 34 [ptr t] H) fun o H' => o = .val (iv (tot fs)) ∧ H' = H := by
    obtain ⟨⟨cap, cs, tl, h1, h2, h3, h4, h5⟩, hok, _⟩ := h
    simp only [ptr_eq, iv_eq] at h1
    rw [c34, callB, bodyOf]
    simp [Try.f34]
    refine loop_wp (fun m s H' => H' = H ∧ ∃ i, i + m = fs.length ∧ rd s 4 = iv (i : Nat) ∧ rd s 3 = iv (tot (fs.drop (fs.length - i)) : Nat)) fs.length ⟨rfl, 0, by omega, by simp, by simp [tot]⟩ ?_
    rintro m s H' hk ⟨rfl, i, hi, g4, g3⟩
    have ht : s.length = 40 := hk.1.trans (by simp [len_Bs])
    have hh := hk.all [0] (by decide +kernel)
    simp at hh
    simp only [iv_eq] at g3 g4
    by_cases hm : m = 0
    · subst hm
      obtain rfl : i = fs.length := by omega
      rw [Nat.sub_self, List.drop_zero] at g3
      simp [ht, hh, g4, g3, h1]
    · have hlt : fs.length - (i + 1) < fs.length := by omega
      obtain ⟨g, hg⟩ : ∃ g, fs[fs.length - (i + 1)]? = some g := ⟨_, List.getElem?_eq_getElem hlt⟩
      have hd : fs.drop (fs.length - (i + 1)) = g :: fs.drop (fs.length - i) := by
        rw [List.drop_eq_getElem_cons hlt, show fs.length - (i + 1) + 1 = fs.length - i by omega]
        rw [List.getElem?_eq_getElem hlt] at hg
        rw [Option.some.inj hg]
      have hgm : g ∈ fs := List.mem_of_getElem? hg
      have hrl : (fs.drop (fs.length - i)).length = i := by simp; omega
      have he : fs = fs.take (fs.length - (i + 1)) ++ g :: fs.drop (fs.length - i) := by rw [← hd, List.take_append_drop]
      obtain ⟨q0, q1, q2⟩ := flat_at he h5 h3
      rw [hrl] at q0 q1 q2
      obtain ⟨ol, oo⟩ := hok g hgm
      obtain ⟨b1, c1, e1⟩ := ol.slice
      obtain ⟨b2, c2, e2⟩ := GL.slice oo
      rw [e1] at q1
      rw [e2] at q2
      have htot : tot (fs.drop (fs.length - (i + 1))) = g.ops.length + (if i = 0 then 0 else 2 + g.locs.length) + tot (fs.drop (fs.length - i)) := by
        rw [hd, tot]
        congr 2
        by_cases h0 : i = 0
        · rw [if_pos h0, if_pos (List.eq_nil_of_length_eq_zero (by omega))]
        · rw [if_neg h0, if_neg (fun e => h0 (by rw [← hrl, e]; rfl))]
      have hmono : tot (fs.drop (fs.length - (i + 1))) ≤ tot fs := by
        have : ∀ xs ys : List RF, tot ys ≤ tot (xs ++ ys) := fun xs ys => by
          induction xs with
          | nil => exact Nat.le_refl _
          | cons x xs ih => simp only [List.cons_append, tot]; omega
        have := this (fs.take (fs.length - (i + 1))) (fs.drop (fs.length - (i + 1)))
        rwa [List.take_append_drop] at this
      generalize hA : tot (fs.drop (fs.length - i)) = A at *
      generalize hB : tot (fs.drop (fs.length - (i + 1))) = B at *
      clear hA hd he hrl
      have hlen3 : i * 3 + 2 < cs.length := by omega
      by_cases h0 : i = 0
      · subst h0
        simp at htot
        simp at q0 q1 q2
        simp [ht, hh, g4, g3, h1, h2, q0, q1, q2, show 0 < fs.length by omega, wrap64 1 (by omega) (by omega), wrap64 ((A : Int) + g.ops.length) (by omega) (by omega)]
        exact ⟨m - 1, by omega, 1, by omega, by simp, by simp only [hB]; omega⟩
      · rw [if_neg h0] at htot
        simp [ht, hh, g4, g3, h1, h2, q0, q1, q2, show i < fs.length by omega, show 0 < i by omega, wrap64 ((A : Int) + g.ops.length) (by omega) (by omega), wrap64 ((A : Int) + g.ops.length + 2) (by omega) (by omega), wrap64 ((A : Int) + g.ops.length + 2 + g.locs.length) (by omega) (by omega), wrap64 ((i : Int) + 1) (by omega) (by omega)]
        exact ⟨m - 1, by omega, i + 1, by omega, by omega, by simp only [hB]; omega⟩
  obtain ⟨o, H', e, rfl, rfl⟩ := key
  exact e
end
end Go.Vm.StackLaw
