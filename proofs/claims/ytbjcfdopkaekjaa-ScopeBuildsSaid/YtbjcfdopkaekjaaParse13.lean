/- What is defined and proved: lists in rows that grow by one; the reader's 'items'. What is defined and proved: reading goes on; the reader's 'args'. What is defined and proved: branches and statements in plain words, and in the heap; a reader of statements, in plain words. What is proved: the reader's 'named'. What is proved: reading statements goes on. What is proved: the reader's 'stmts' and 'block', if its 'stmt' reads. What is proved: the reader's steps beside a variable of its own. -/
import Derived.Test.YtbjcfdopkaekjaaParse6
import Derived.Test.YtbjcfdopkaekjaaGoes
import Derived.Test.YtbjcfdopkaekjaaLex2
namespace Go.Vm
/-- How a kind of thing stands in cells, its parts in rows among S. -/
structure Rep (α : Type) where
  k : Nat
  R : Heap → (Nat → Prop) → α → List Value → Prop
  len : ∀ {H S a cs}, R H S a cs → cs.length = k
  move : ∀ {X S S' : Nat → Prop} {H H' : Heap}, Same X H H' → (∀ i, S i → i < H.n → S' i ∧ ¬ X i) → ∀ a cs, R H S a cs → R H' S' a cs
variable {α : Type}
def Rep.L (ρ : Rep α) (H : Heap) (S : Nat → Prop) : List α → List Value → Prop
  | [], cs => cs = []
  | a :: l, cs => ∃ c1 c2, cs = c1 ++ c2 ∧ ρ.R H S a c1 ∧ Rep.L ρ H S l c2
theorem Rep.L_len (ρ : Rep α) {H : Heap} {S : Nat → Prop} : ∀ {l : List α} {cs : List Value}, ρ.L H S l cs → cs.length = l.length * ρ.k
  | [], cs, h => by simp only [Rep.L] at h; subst h; simp
  | a :: l, cs, h => by
    obtain ⟨c1, c2, rfl, h1, h2⟩ := h
    have := Rep.L_len ρ h2
    have := ρ.len h1
    simp [Nat.add_mul]; omega
theorem Rep.L_move (ρ : Rep α) {X S S' : Nat → Prop} {H H' : Heap} (k : Same X H H') (hs : ∀ i, S i → i < H.n → S' i ∧ ¬ X i) : ∀ {l : List α} {cs : List Value}, ρ.L H S l cs → ρ.L H' S' l cs
  | [], cs, h => h
  | a :: l, cs, h => by
    obtain ⟨c1, c2, e, h1, h2⟩ := h
    exact ⟨c1, c2, e, ρ.move k hs _ _ h1, Rep.L_move ρ k hs h2⟩
theorem Rep.L_snoc (ρ : Rep α) {H : Heap} {S : Nat → Prop} {a : α} {c : List Value} (h : ρ.R H S a c) : ∀ {l : List α} {cs : List Value}, ρ.L H S l cs → ρ.L H S (l ++ [a]) (cs ++ c)
  | [], cs, h0 => by
    simp only [Rep.L] at h0
    subst h0
    exact ⟨c, [], by simp, h, rfl⟩
  | b :: l, cs, h0 => by
    obtain ⟨c1, c2, rfl, h1, h2⟩ := h0
    exact ⟨c1, c2 ++ c, by simp, h1, Rep.L_snoc ρ h h2⟩
/-- The row that a slice stands in. -/
def vid (v : Value) (i : Nat) : Prop := match v with
  | .slice (some a) _ _ => a.block = i
  | _ => False
/-- A list in a row. -/
def Rep.G (ρ : Rep α) (H : Heap) (S : Nat → Prop) (v : Value) (l : List α) : Prop :=
  (v = .slice none 0 0 ∧ l = []) ∨ ∃ id tl cs, v = .slice (some ⟨id, 0, none⟩) l.length l.length ∧ tl ≤ 1 ∧ S id ∧ H.get id = .row true tl ρ.k cs ∧ ρ.L H (fun i => S i ∧ i ≠ id) l cs
theorem Rep.G_move (ρ : Rep α) {X S S' : Nat → Prop} {H H' : Heap} (k : Same X H H') (hs : ∀ i, S i → i < H.n → S' i ∧ ¬ X i) {v : Value} {l : List α} (h : ρ.G H S v l) : ρ.G H' S' v l := by
  refine h.imp id ?_
  rintro ⟨id, tl, cs, h1, h2, h3, h4, h5⟩
  have := hs id h3 (Heap.lt_of_get h4 (by simp))
  exact ⟨id, tl, cs, h1, h2, this.1, k.at h4 (by simp) this.2, ρ.L_move k (fun i hi hl => ⟨⟨(hs i hi.1 hl).1, hi.2⟩, (hs i hi.1 hl).2⟩) h5⟩
theorem Rep.G_lt (ρ : Rep α) {H : Heap} {S : Nat → Prop} {v : Value} {l : List α} (h : ρ.G H S v l) {i : Nat} (hi : vid v i) : i < H.n ∧ S i := by
  rcases h with ⟨rfl, _⟩ | ⟨id, tl, cs, rfl, h2, h3, h4, h5⟩
  · exact hi.elim
  · have : id = i := hi
    subst this
    exact ⟨Heap.lt_of_get h4 (by simp), h3⟩
theorem Rep.G_empty (ρ : Rep α) (H : Heap) {S : Nat → Prop} (hS : S H.n) : ρ.G (H.push (.row true 0 ρ.k [])) S (.slice (some ⟨H.n, 0, none⟩) 0 0) [] :=
  .inr ⟨H.n, 0, [], rfl, by omega, hS, Heap.get_push_self _ _, rfl⟩
/-- One more. -/
theorem Rep.G_app (ρ : Rep α) {P : Program} {t : TypeId} (T : TF P t ρ.k) {H : Heap} {S : Nat → Prop} {v : Value} {l : List α} (h : ρ.G H S v l) (hS : ∀ i, H.n ≤ i → S i) (hl : l.length ≤ 100000) {a : α} {c : List Value} (ha : ρ.R H (fun i => S i ∧ ¬ vid v i) a c) :
    ∃ v' H', exAppend P [t, t] v (.slice (some ⟨H.n, 0, none⟩) 1 1) (H.push (.row true 0 ρ.k c)) = some (v', H') ∧ ρ.G H' S v' (l ++ [a]) ∧ Same (vid v) H H' := by
  have hc := ρ.len ha
  have hx : (H.push (.row true 0 ρ.k c)).get H.n = .row true 0 ρ.k c := Heap.get_push_self _ _
  have kp : Same (fun _ => False) H (H.push (.row true 0 ρ.k c)) := Same.push _ _ _
  rcases h with ⟨rfl, rfl⟩ | ⟨id, tl, cs, rfl, h2, h3, h4, h5⟩
  · have e := app_nil T hc hx (xc := 1)
    have k2 : Same (fun _ => False) H ((H.push (.row true 0 ρ.k c)).push (.row true 1 ρ.k c)) := kp.then_push _
    refine ⟨_, _, e, .inr ⟨_, 1, c, rfl, by omega, hS _ (by simp), Heap.get_push_self _ _, ?_⟩, k2.mono fun i hi => hi.elim⟩
    refine ⟨c, [], by simp, ρ.move k2 (fun i hi hlt => ⟨⟨hi.1, by simp; omega⟩, fun h => h⟩) _ _ ha, rfl⟩
  · have hid := Heap.lt_of_get h4 (by simp)
    have h4' : (H.push (.row true 0 ρ.k c)).get id = .row true tl ρ.k cs := kp.at h4 (by simp) (fun h => h)
    obtain ⟨H', e1, e2, e3, e4⟩ := app_one T h4' (ρ.L_len h5) h2 hc hx hl (xc := 1)
    have k2 : Same (fun i => i = id) H H' := (kp.mono fun i hi => hi.elim).trans e4
    refine ⟨_, H', e1, .inr ⟨_, 1, cs ++ c, ?_, by omega, hS _ (by simp), e2, ?_⟩, k2.mono fun i hi => hi.symm⟩
    · simp
    · refine ρ.L_snoc ?_ (ρ.L_move k2 (fun i hi hlt => ⟨⟨hi.1, by simp; omega⟩, hi.2⟩) h5)
      exact ρ.move k2 (fun i hi hlt => ⟨⟨hi.1, by simp; omega⟩, fun e => hi.2 e.symm⟩) _ _ ha
end Go.Vm
namespace Go.Vm.Parse
open Go Go.Proofs
set_option maxRecDepth 100000
set_option maxHeartbeats 1000000
set_option linter.unusedSimpArgs false
set_option linter.unusedVariables false
attribute [local simp] repCells_succ writeAt rd_Fr toList_beq gpe gpn spe gse gsn ne_r0 ne_l0 le_s0 ne_r1 ne_l1 lt_s1 le_s1 ne_r2 ne_l2 lt_s2 le_s2 ne_r3 ne_l3 lt_s3 le_s3 ne_r4 ne_l4 lt_s4 le_s4 ne_r5 ne_l5 lt_s5 le_s5 ne_r6 ne_l6 lt_s6 le_s6 ne_r7 ne_l7 lt_s7 le_s7
/-- So many units of a class. -/
structure Itm where
  at_ : Int
  name : ByteArray
  n : Int
def repItm : Rep Itm where
  k := 3
  R _ _ x cs := cs = [.int .i64 x.at_, .string x.name, .int .i64 x.n]
  len h := by subst h; rfl
  move _ _ _ _ h := h
def repEx : Rep Ex where
  k := 6
  R := RE
  len := RE.len
  move k hs := RE.move k hs
theorem repEx_L {H : Heap} {S : Nat → Prop} : ∀ {l : List Ex} {cs : List Value}, repEx.L H S l cs ↔ REs H S l cs
  | [], cs => by simp only [Rep.L, REs]
  | e :: es, cs => by
    simp only [Rep.L, REs]
    constructor
    · rintro ⟨c1, c2, h1, h2, h3⟩; exact ⟨c1, c2, h1, h2, repEx_L.1 h3⟩
    · rintro ⟨c1, c2, h1, h2, h3⟩; exact ⟨c1, c2, h1, h2, repEx_L.2 h3⟩
theorem nameS_on {L : List Tk} {s : PS} (h : (nameS L s).c = 0) : s.c = 0 ∧ nameS L s = s.on := by
  unfold nameS at h ⊢
  split at h
  · rename_i hc; exact ⟨hc.1, by rw [if_pos hc]; rfl⟩
  · unfold faultS at h
    split at h
    · simp at h
    · exact absurd h (by assumption)
theorem numS_on {L : List Tk} {s : PS} (h : (numS L s).c = 0) : s.c = 0 ∧ numS L s = s.on := by
  unfold numS at h ⊢
  split at h
  · rename_i hc; exact ⟨hc.1, by rw [if_pos hc]; rfl⟩
  · unfold faultS at h
    split at h
    · simp at h
    · exact absurd h (by assumption)
def comma : ByteArray := ⟨#[44]⟩
def itemsL (L : List Tk) : Nat → List Itm → Bool → PS → Option (List Itm × PS)
  | 0, _, _, _ => none
  | n + 1, acc, again, s =>
    if again = true ∧ s.c = 0 then
      itemsL L n (acc ++ [⟨(nameP L s).at_, (nameP L s).name, (numP L (nameS L s)).1⟩]) (isP L (numS L (nameS L s)) comma) (takeS L (numS L (nameS L s)) comma)
    else some (acc, s)
def ItemsI (r lid : Nat) (L : List Tk) (H : Heap) (res : List Itm) (s' : PS) (n m : Nat) (t : List Value) (H' : Heap) : Prop :=
  m ≤ n ∧ ∃ acc again s v, itemsL L m acc again s = some (res, s') ∧ rd t 4 = .bool again ∧ rd t 3 = v ∧ repItm.G H' (fun i => H.n ≤ i) v acc ∧ RD H' r lid L s ∧ Same (· = r) H H' ∧ (s.c = 0 → acc.length ≤ s.p)
def RetG {α : Type} (ρ : Rep α) (H : Heap) (r lid : Nat) (L : List Tk) (l : List α) (s : PS) (o : Out) (H' : Heap) : Prop :=
  ∃ v, o = .val v ∧ Same (· = r) H H' ∧ RD H' r lid L s ∧ ρ.G H' (fun i => H.n ≤ i) v l
theorem tf_itm : TF Try.prog 37 3 := ⟨_, _, _, by simp, by simp, by simp; rfl, by omega, by simp; rfl, rfl, by omega, rfl⟩
section
variable {E : Hooks} (hE : Plain E) {r lid : Nat} {L : List Tk}
include hE
theorem items_run {n : Nat} {s s' : PS} {l : List Itm} (hx : itemsL L n [] true s = some (l, s')) {H : Heap} (h : RD H r lid L s) : Gives ((run Try.prog E).call 41 [.pointer (some ⟨r, 0, none⟩)] H) (RetG repItm H r lid L l s') := by
  have hr := h.lt
  have hl := h.lid_lt
  have hsm := h.small
  rw [c_items hE, callB, bodyOf]
  simp [Try.f41]
  refine loop_wp (ItemsI r lid L H l s' n) n ?_ ?_
  · exact ⟨Nat.le_refl n, [], true, s, .slice (some ⟨H.n, 0, none⟩) 0 0, hx, by simp, by simp, repItm.G_empty H (Nat.le_refl _), h.same (Same.push _ _ _), Same.push _ _ _, fun _ => by simp⟩
  rintro m t H' hk ⟨hmn, acc, again, s1, v, hxl, g4, g3, hG, hR, hS, hlen⟩
  have ht : t.length = 34 := hk.1.trans (by simp [len_Bs])
  have hh := hk.all [0] (by decide +kernel)
  simp at hh
  have eb := bad_run hE hR
  have nS := hS.n
  cases m with
  | zero => cases hxl
  | succ m =>
  rw [itemsL] at hxl
  by_cases hg : again = true ∧ s1.c = 0
  · rw [if_pos hg] at hxl
    obtain ⟨rfl, hc⟩ := hg
    obtain ⟨HA, eA, kA, hA⟩ := name_run hE hR
    have hA2 := hA.same (Same.push _ _ (.row true 0 1 (nameP L s1).cells))
    have nA := kA.n
    obtain ⟨HB, eB, kB, hB⟩ := num_run hE hA2
    have nB := kB.n
    simp at nB
    have gB : HB.get HA.n = .row true 0 1 (nameP L s1).cells := kB.at (Heap.get_push_self _ _) (by simp) (by omega)
    have kAB : Same (· = r) H' HB := (kA.then_push _).trans kB
    have hvr : ∀ i, vid v i → H.n ≤ i := fun i hi => (repItm.G_lt hG hi).2
    have hG2 := repItm.G_move kAB (S' := fun i => H.n ≤ i) (fun i hi _ => ⟨hi, by omega⟩) hG
    obtain ⟨v', HC, eC, gC, kC⟩ := repItm.G_app tf_itm hG2 (fun i hi => by omega) (by have := hlen hc; have := hR.place; omega) (a := ⟨(nameP L s1).at_, (nameP L s1).name, (numP L (nameS L s1)).1⟩) (c := [.int .i64 (nameP L s1).at_, .string (nameP L s1).name, .int .i64 (numP L (nameS L s1)).1]) rfl
    have hC := hB.keep kC (fun hi => by have := hvr _ hi; omega) (fun hi => by have := hvr _ hi; omega)
    obtain ⟨HD, eD, kD, hD⟩ := take_run hE hC comma
    have nC := kC.n
    have kk : Same (· = r) H HC := (hS.trans kAB).then kC (fun i hi => .inr (hvr i hi))
    simp only [Idn.cells, comma] at eA gB eB eD
    simp only [repItm] at eC
    simp [ht, g4, g3, hh, eb, hc, eA, eB, gB, eC, eD]
    refine ⟨m, by omega, by omega, _, _, _, v', hxl, by simp [ht, comma], by simp [ht], repItm.G_move kD (fun i hi _ => ⟨hi, by omega⟩) gC, hD, kk.trans kD, fun h0 => ?_⟩
    have h1 := takeS_c L (numS L (nameS L s1)) comma
    have h2 := numS_on (L := L) (s := nameS L s1) (by rw [← h1.1]; exact h0)
    have h3 := nameS_on h2.1
    have h4 := hlen hc
    rw [h2.2, h3.2] at h1 ⊢
    simp only [PS.on] at h1 ⊢
    simp
    omega
  · rw [if_neg hg] at hxl
    cases hxl
    by_cases ha : again = true
    · have hc : ¬ s'.c = 0 := fun e => hg ⟨ha, e⟩
      subst ha
      simp [ht, g4, g3, hh, eb, hc]
      exact ⟨v, rfl, hS, hR, hG⟩
    · have ha' : again = false := by simpa using ha
      subst ha'
      simp [ht, g4, g3, hh]
      exact ⟨v, rfl, hS, hR, hG⟩
end
end Go.Vm.Parse
namespace Go.Vm.Parse
open Go Go.Proofs
set_option maxRecDepth 100000
set_option maxHeartbeats 1000000
set_option linter.unusedSimpArgs false
set_option linter.unusedVariables false
attribute [local simp] repCells_succ writeAt rd_Fr toList_beq gpe gpn spe gse gsn ne_r0 ne_l0 le_s0 ne_r1 ne_l1 lt_s1 le_s1 ne_r2 ne_l2 lt_s2 le_s2 ne_r3 ne_l3 lt_s3 le_s3 ne_r4 ne_l4 lt_s4 le_s4 ne_r5 ne_l5 lt_s5 le_s5 ne_r6 ne_l6 lt_s6 le_s6 ne_r7 ne_l7 lt_s7 le_s7
/-! ### Arguments -/
def argsL (L : List Tk) (lv : Int) : Nat → List Ex → Bool → PS → Option (List Ex × PS)
  | 0, _, _, _ => none
  | n + 1, acc, again, s =>
    if again = true ∧ s.c = 0 then (xP L n (.row 1 lv) s).bind fun q => argsL L lv n (acc ++ [q.1]) (isP L q.2 comma) (takeS L q.2 comma)
    else some (acc, s)
def argsP (L : List Tk) (n : Nat) (lv : Int) (s : PS) : Option (List Ex × PS) :=
  if isP L (mustS L s (b1 40)) (b1 41) = true then some ([], (mustS L s (b1 40)).on)
  else (argsL L lv n [] true (mustS L s (b1 40))).map fun q => (q.1, mustS L q.2 (b1 41))
def ArgsI (r lid : Nat) (L : List Tk) (lv : Int) (H : Heap) (res : List Ex) (s' : PS) (n m : Nat) (t : List Value) (H' : Heap) : Prop :=
  m ≤ n ∧ ∃ acc again s v, argsL L lv m acc again s = some (res, s') ∧ rd t 6 = .bool again ∧ rd t 5 = v ∧ repEx.G H' (fun i => H.n ≤ i) v acc ∧ RD H' r lid L s ∧ Same (· = r) H H' ∧ (s.c = 0 → acc.length ≤ s.p)
theorem tf_ex : TF Try.prog 81 6 := ⟨_, _, _, by simp, by simp, by simp; rfl, by omega, by simp; rfl, rfl, by omega, rfl⟩
section
variable {E : Hooks} (hE : Plain E) {r lid : Nat} {L : List Tk}
include hE
theorem args_run {n : Nat} {lv : Int} (h0 : 0 ≤ lv) (h24 : lv ≤ 24) {s s' : PS} {l : List Ex} (hx : argsP L n lv s = some (l, s')) {H : Heap} (h : RD H r lid L s) : Gives ((run Try.prog E).call 106 [.pointer (some ⟨r, 0, none⟩), .int .i64 lv] H) (RetG repEx H r lid L l s') := by
  have hr := h.lt
  have hl := h.lid_lt
  have hsm := h.small
  have hP := h.same (Same.push _ _ (.row true 0 6 []))
  obtain ⟨HA, eA, kA, hA⟩ := must_run hE hP (b1 40)
  obtain ⟨HB, eB, kB, hB⟩ := take_run hE hA (b1 41)
  have nA := kA.n
  have nB := kB.n
  simp at nA
  have kAB : Same (· = r) (H.push (.row true 0 6 [])) HB := kA.trans kB
  have kHB : Same (· = r) H HB := (Same.push _ _ _).trans kAB
  have gE : repEx.G HB (fun i => H.n ≤ i) (.slice (some ⟨H.n, 0, none⟩) 0 0) [] := repEx.G_move kAB (fun i hi _ => ⟨hi, by omega⟩) (repEx.G_empty H (Nat.le_refl _))
  rw [c_args hE, callB, bodyOf]
  unfold argsP at hx
  by_cases hi : isP L (mustS L s (b1 40)) (b1 41) = true
  · rw [if_pos hi] at hx
    cases hx
    have hB : RD HB r lid L (mustS L s (b1 40)).on := by unfold takeS at hB; rw [if_pos hi] at hB; exact hB
    simp only [b1] at eA eB hi
    simp [Try.f106, eA, eB, hi]
    exact ⟨_, rfl, kHB, hB, gE⟩
  · rw [if_neg hi] at hx
    have hB : RD HB r lid L (mustS L s (b1 40)) := by unfold takeS at hB; rw [if_neg hi] at hB; exact hB
    have hi' : isP L (mustS L s (b1 40)) (b1 41) = false := by simpa using hi
    simp only [Option.map_eq_some_iff] at hx
    obtain ⟨⟨l1, s1⟩, hx1, hx2⟩ := hx
    cases hx2
    simp only [b1] at eA eB hi'
    simp [Try.f106, eA, eB, hi']
    refine loop_wp (ArgsI r lid L lv H l1 s1 n) n ?_ ?_
    · exact ⟨Nat.le_refl n, [], true, _, .slice (some ⟨H.n, 0, none⟩) 0 0, hx1, by simp, by simp, gE, hB, kHB, fun _ => by simp⟩
    rintro m t H' hk ⟨hmn, acc, again, s2, v, hxl, g6, g5, hG, hR, hS, hlen⟩
    have ht : t.length = 30 := hk.1.trans (by simp [len_Bs])
    have hh := hk.all [0, 1] (by decide +kernel)
    simp at hh
    obtain ⟨t0, t1⟩ := hh
    have eb := bad_run hE hR
    have nS := hS.n
    obtain ⟨HZ, eZ, kZ, hZ⟩ := must_run hE hR (b1 41)
    simp only [b1] at eZ
    cases m with
    | zero => cases hxl
    | succ m =>
    rw [argsL] at hxl
    by_cases hg : again = true ∧ s2.c = 0
    · rw [if_pos hg] at hxl
      obtain ⟨rfl, hc⟩ := hg
      simp only [Option.bind_eq_some_iff] at hxl
      obtain ⟨⟨x, s3⟩, hxa, hxb⟩ := hxl
      obtain ⟨o, HC, eC, cs, rfl, kC, hC, rC⟩ := (x_all hE m).1 _ _ _ _ _ hxa (by omega) (by omega) h0 h24 _ hR
      have hvr : ∀ i, vid v i → H.n ≤ i := fun i hi => (repEx.G_lt hG hi).2
      have hvl : ∀ i, vid v i → i < H'.n := fun i hi => (repEx.G_lt hG hi).1
      have nC := kC.n
      have hG2 := repEx.G_move kC (S' := fun i => H.n ≤ i) (fun i hi _ => ⟨hi, by omega⟩) hG
      have hmono := x_le L _ _ _ _ _ hxa
      obtain ⟨v', HD, eD, gD, kD⟩ := repEx.G_app tf_ex hG2 (fun i hi => by omega) (by have := hlen hc; have := hR.place; omega) (a := x) (c := cs) (RE.move (Same.refl (fun _ => False) _) (fun i hi _ => ⟨⟨by omega, fun e => by have := hvl _ e; omega⟩, fun h => h⟩) _ _ rC)
      have hD := hC.keep kD (fun hi => by have := hvr _ hi; omega) (fun hi => by have := hvr _ hi; omega)
      obtain ⟨HE2, eE, kE, hE2⟩ := take_run hE hD comma
      have nD := kD.n
      have kk : Same (· = r) H HD := (hS.trans kC).then kD (fun i hi => .inr (hvr i hi))
      obtain ⟨a, b, c, d, y, w, rfl, hw1, hw2⟩ := rC.six
      simp only [comma] at eE
      simp only [repEx] at eD
      simp [ht, g6, g5, t0, t1, eb, hc, eC, hw1, eD, eE]
      refine ⟨m, by omega, by omega, _, _, _, v', hxb, by simp [ht, comma], by simp [ht], repEx.G_move kE (fun i hi _ => ⟨hi, by omega⟩) gD, hE2, kk.trans kE, fun e0 => ?_⟩
      have h1 := takeS_c L s3 comma
      have h2 := hmono.2 rfl (by rw [← h1.1]; exact e0)
      have h4 := hlen hc
      simp
      omega
    · rw [if_neg hg] at hxl
      cases hxl
      by_cases ha : again = true
      · have hc : ¬ s1.c = 0 := fun e => hg ⟨ha, e⟩
        subst ha
        simp [ht, g6, g5, t0, t1, eb, hc, eZ]
        exact ⟨v, rfl, hS.trans kZ, hZ, repEx.G_move kZ (fun i hi _ => ⟨hi, by omega⟩) hG⟩
      · have ha' : again = false := by simpa using ha
        subst ha'
        simp [ht, g6, g5, t0, t1, eZ]
        exact ⟨v, rfl, hS.trans kZ, hZ, repEx.G_move kZ (fun i hi _ => ⟨hi, by omega⟩) hG⟩
end
end Go.Vm.Parse
namespace Go.Vm
theorem Rep.G_slice {α : Type} (ρ : Rep α) {H : Heap} {S : Nat → Prop} {v : Value} {l : List α} (h : ρ.G H S v l) : ∃ b, v = .slice b l.length l.length := by
  rcases h with ⟨rfl, rfl⟩ | ⟨id, tl, cs, rfl, _⟩
  · exact ⟨none, rfl⟩
  · exact ⟨_, rfl⟩
theorem Rep.G_nil {α : Type} (ρ : Rep α) (H : Heap) (S : Nat → Prop) : ρ.G H S (.slice none 0 0) [] := .inl ⟨rfl, rfl⟩
/-- A row of one thing. -/
theorem Rep.G_one {α : Type} (ρ : Rep α) {H : Heap} {S : Nat → Prop} {a : α} {c : List Value} (h : ρ.R H S a c) (hS : ∀ i, S i → i < H.n → S i ∧ i ≠ H.n) (hn : S H.n) : ρ.G (H.push (.row true 0 ρ.k c)) S (.slice (some ⟨H.n, 0, none⟩) 1 1) [a] :=
  .inr ⟨H.n, 0, c, rfl, by omega, hn, Heap.get_push_self _ _, c, [], (List.append_nil _).symm, ρ.move (Same.push (fun _ => False) _ _) (fun i hi hl => ⟨hS i hi hl, fun h => h⟩) _ _ h, rfl⟩
end Go.Vm
namespace Go.Vm.Parse
open Go Go.Proofs
set_option maxRecDepth 100000
set_option maxHeartbeats 1000000
set_option linter.unusedSimpArgs false
set_option linter.unusedVariables false
/-- One branch of a fork. -/
structure Bra where
  at_ : Int
  name : ByteArray
  args : List Ex
  claims : List Itm
def RB (H : Heap) (S : Nat → Prop) (b : Bra) (cs : List Value) : Prop := ∃ v w, cs = [.int .i64 b.at_, .string b.name, v, w] ∧ repEx.G H S v b.args ∧ repItm.G H S w b.claims
def repBra : Rep Bra where
  k := 4
  R := RB
  len h := by obtain ⟨v, w, rfl, _⟩ := h; rfl
  move k hs b cs h := by
    obtain ⟨v, w, e, h1, h2⟩ := h
    exact ⟨v, w, e, repEx.G_move k hs h1, repItm.G_move k hs h2⟩
inductive Stm where
  | mk (kind at_ : Int) (name : ByteArray) (e : List Ex) (body els : List Stm) (br : List Bra) (items : List Itm)
mutual
def RS (H : Heap) (S : Nat → Prop) : Stm → List Value → Prop
  | .mk kind at_ name e body els br items, cs => ∃ v1 v2 v3 v4 v5, cs = [.int .i64 kind, .int .i64 at_, .string name, v1, v2, v3, v4, v5] ∧
    repEx.G H S v1 e ∧ repBra.G H S v4 br ∧ repItm.G H S v5 items ∧
    ((v2 = .slice none 0 0 ∧ body = []) ∨ ∃ id tl cs', v2 = .slice (some ⟨id, 0, none⟩) body.length body.length ∧ tl ≤ 1 ∧ S id ∧ H.get id = .row true tl 8 cs' ∧ RSs H S body cs') ∧
    ((v3 = .slice none 0 0 ∧ els = []) ∨ ∃ id tl cs', v3 = .slice (some ⟨id, 0, none⟩) els.length els.length ∧ tl ≤ 1 ∧ S id ∧ H.get id = .row true tl 8 cs' ∧ RSs H S els cs')
def RSs (H : Heap) (S : Nat → Prop) : List Stm → List Value → Prop
  | [], cs => cs = []
  | a :: l, cs => ∃ c1 c2, cs = c1 ++ c2 ∧ RS H S a c1 ∧ RSs H S l c2
end
mutual
theorem RS.move {X S S' : Nat → Prop} {H H' : Heap} (k : Same X H H') (hs : ∀ i, S i → i < H.n → S' i ∧ ¬ X i) : ∀ (e : Stm) (cs : List Value), RS H S e cs → RS H' S' e cs
  | .mk kind at_ name e body els br items, cs, h => by
    simp only [RS] at h ⊢
    obtain ⟨v1, v2, v3, v4, v5, h1, h2, h3, h4, h5, h6⟩ := h
    refine ⟨v1, v2, v3, v4, v5, h1, repEx.G_move k hs h2, repBra.G_move k hs h3, repItm.G_move k hs h4, h5.imp id ?_, h6.imp id ?_⟩
    · rintro ⟨id, tl, cs', h3, h3', h4, h5, h6⟩
      have := hs id h4 (Heap.lt_of_get h5 (by simp))
      exact ⟨id, tl, cs', h3, h3', this.1, k.at h5 (by simp) this.2, RSs.move k hs body cs' h6⟩
    · rintro ⟨id, tl, cs', h3, h3', h4, h5, h6⟩
      have := hs id h4 (Heap.lt_of_get h5 (by simp))
      exact ⟨id, tl, cs', h3, h3', this.1, k.at h5 (by simp) this.2, RSs.move k hs els cs' h6⟩
theorem RSs.move {X S S' : Nat → Prop} {H H' : Heap} (k : Same X H H') (hs : ∀ i, S i → i < H.n → S' i ∧ ¬ X i) : ∀ (es : List Stm) (cs : List Value), RSs H S es cs → RSs H' S' es cs
  | [], cs, h => by simp only [RSs] at h ⊢; exact h
  | e :: es, cs, h => by
    simp only [RSs] at h ⊢
    obtain ⟨c1, c2, h1, h2, h3⟩ := h
    exact ⟨c1, c2, h1, RS.move k hs e c1 h2, RSs.move k hs es c2 h3⟩
end
theorem RS.len {H : Heap} {S : Nat → Prop} {e : Stm} {cs : List Value} (h : RS H S e cs) : cs.length = 8 := by
  cases e
  simp only [RS] at h
  obtain ⟨v1, v2, v3, v4, v5, rfl, _⟩ := h
  rfl
def repStm : Rep Stm where
  k := 8
  R := RS
  len := RS.len
  move k hs := RS.move k hs
theorem repStm_L {H : Heap} {S : Nat → Prop} : ∀ {l : List Stm} {cs : List Value}, repStm.L H S l cs ↔ RSs H S l cs
  | [], cs => by simp only [Rep.L, RSs]
  | e :: es, cs => by
    simp only [Rep.L, RSs]
    constructor
    · rintro ⟨c1, c2, h1, h2, h3⟩; exact ⟨c1, c2, h1, h2, repStm_L.1 h3⟩
    · rintro ⟨c1, c2, h1, h2, h3⟩; exact ⟨c1, c2, h1, h2, repStm_L.2 h3⟩
theorem RSs.weak {H : Heap} {S S' : Nat → Prop} (h : ∀ i, S i → S' i) {l : List Stm} {cs : List Value} (k : RSs H S l cs) : RSs H S' l cs :=
  RSs.move (Same.refl (fun _ => False) H) (fun i hi _ => ⟨h i hi, fun h => h⟩) _ _ k
/-- A statement from its parts. -/
theorem RS.put {H : Heap} {S : Nat → Prop} {kind at_ : Int} {name : ByteArray} {e : List Ex} {body els : List Stm} {br : List Bra} {items : List Itm} {v1 v2 v3 v4 v5 : Value}
    (h1 : repEx.G H S v1 e) (h2 : repStm.G H S v2 body) (h3 : repStm.G H S v3 els) (h4 : repBra.G H S v4 br) (h5 : repItm.G H S v5 items) :
    RS H S (.mk kind at_ name e body els br items) [.int .i64 kind, .int .i64 at_, .string name, v1, v2, v3, v4, v5] := by
  simp only [RS]
  refine ⟨v1, v2, v3, v4, v5, rfl, h1, h4, h5, h2.imp (fun h => h) ?_, h3.imp (fun h => h) ?_⟩
  · rintro ⟨id, tl, cs, a, b, c, d, e⟩
    exact ⟨id, tl, cs, a, b, c, d, (repStm_L.1 e).weak fun i hi => hi.1⟩
  · rintro ⟨id, tl, cs, a, b, c, d, e⟩
    exact ⟨id, tl, cs, a, b, c, d, (repStm_L.1 e).weak fun i hi => hi.1⟩
theorem RS.eight {H : Heap} {S : Nat → Prop} {e : Stm} {cs : List Value} (h : RS H S e cs) :
    ∃ a b x b1 n1 c1 b2 n2 c2 b3 n3 c3 b4 n4 c4 b5 n5 c5, cs = [.int .i64 a, .int .i64 b, .string x, .slice b1 n1 c1, .slice b2 n2 c2, .slice b3 n3 c3, .slice b4 n4 c4, .slice b5 n5 c5] := by
  cases e
  simp only [RS] at h
  obtain ⟨v1, v2, v3, v4, v5, rfl, h1, h4, h5, h2, h3⟩ := h
  obtain ⟨b1, rfl⟩ := repEx.G_slice h1
  obtain ⟨b4, rfl⟩ := repBra.G_slice h4
  obtain ⟨b5, rfl⟩ := repItm.G_slice h5
  rcases h2 with ⟨rfl, _⟩ | ⟨_, _, _, rfl, _⟩ <;> rcases h3 with ⟨rfl, _⟩ | ⟨_, _, _, rfl, _⟩ <;> exact ⟨_, _, _, _, _, _, _, _, _, _, _, _, _, _, _, _, _, _, rfl⟩

/-! ### The reader of statements -/
def tIf : ByteArray := ⟨#[105, 102]⟩
def tSkip : ByteArray := ⟨#[115, 107, 105, 112]⟩
def tThen : ByteArray := ⟨#[116, 104, 101, 110]⟩
def tElse : ByteArray := ⟨#[101, 108, 115, 101]⟩
def tFi : ByteArray := ⟨#[102, 105]⟩
def tWhile : ByteArray := ⟨#[119, 104, 105, 108, 101]⟩
def tDo : ByteArray := ⟨#[100, 111]⟩
def tOd : ByteArray := ⟨#[111, 100]⟩
def tCobegin : ByteArray := ⟨#[99, 111, 98, 101, 103, 105, 110]⟩
def tCoend : ByteArray := ⟨#[99, 111, 101, 110, 100]⟩
def tSlash : ByteArray := ⟨#[47, 47]⟩
def tRegion : ByteArray := ⟨#[114, 101, 103, 105, 111, 110]⟩
def tWhen : ByteArray := ⟨#[119, 104, 101, 110]⟩
def tRequest : ByteArray := ⟨#[114, 101, 113, 117, 101, 115, 116]⟩
def tRelease : ByteArray := ⟨#[114, 101, 108, 101, 97, 115, 101]⟩
def tRead : ByteArray := ⟨#[114, 101, 97, 100]⟩
def tWrite : ByteArray := ⟨#[119, 114, 105, 116, 101]⟩
def tClaims : ByteArray := ⟨#[99, 108, 97, 105, 109, 115]⟩
def tSet : ByteArray := ⟨#[58, 61]⟩
def tSemi : ByteArray := ⟨#[59]⟩
def namedP (L : List Tk) (n : Nat) (lv : Int) (s : PS) : Option (Stm × PS) :=
  if isP L (nameS L s) (b1 40) = true then
    (argsP L n lv (nameS L s)).map fun q => (.mk 6 (nameP L s).at_ (nameP L s).name q.1 [] [] [] [], q.2)
  else if isP L (nameS L s) (b1 91) = true then
    (xP L n (.index lv) (nameS L s)).bind fun i => (xP L n (.row 1 lv) (mustS L i.2 tSet)).map fun q => (.mk 3 (nameP L s).at_ (nameP L s).name [i.1, q.1] [] [] [] [], q.2)
  else (xP L n (.row 1 lv) (mustS L (nameS L s) tSet)).map fun q => (.mk 2 (nameP L s).at_ (nameP L s).name [q.1] [] [] [] [], q.2)
def branP (L : List Tk) (n : Nat) (lv : Int) (s : PS) : Option (Bra × PS) :=
  (argsP L n lv (nameS L s)).bind fun a =>
    if isP L a.2 tClaims = true then (itemsL L n [] true a.2.on).map fun q => (⟨(nameP L s).at_, (nameP L s).name, a.1, q.1⟩, q.2)
    else some (⟨(nameP L s).at_, (nameP L s).name, a.1, []⟩, a.2)
/-- How a branch is read; B is 'branP', or nothing. -/
abbrev BrP := List Tk → Nat → Int → PS → Option (Bra × PS)
def branL (B : BrP) (L : List Tk) (lv : Int) : Nat → List Bra → Bool → PS → Option (List Bra × PS)
  | 0, _, _, _ => none
  | n + 1, acc, again, s =>
    if again = true ∧ s.c = 0 then (B L n lv s).bind fun q => branL B L lv n (acc ++ [q.1]) (isP L q.2 tSlash) (takeS L q.2 tSlash)
    else some (acc, s)
mutual
def stmtP (B : BrP) (L : List Tk) : Nat → Int → PS → Option (Stm × PS)
  | 0, _, _ => none
  | n + 1, lv, s =>
    if (tok L s.p).kind = 1 then namedP L n lv s
    else if isP L s tSkip = true then some (.mk 1 (tok L s.p).at_ ByteArray.empty [] [] [] [] [], s.on)
    else if isP L s tIf = true then
      (xP L n (.row 1 lv) s.on).bind fun x => (blockP B L n tThen lv x.2).bind fun b =>
        if isP L b.2 tElse = true then (blockP B L n tElse lv b.2).map fun c => (.mk 4 (tok L s.p).at_ ByteArray.empty [x.1] b.1 c.1 [] [], mustS L c.2 tFi)
        else some (.mk 4 (tok L s.p).at_ ByteArray.empty [x.1] b.1 [] [] [], mustS L b.2 tFi)
    else if isP L s tWhile = true then
      (xP L n (.row 1 lv) s.on).bind fun x => (blockP B L n tDo lv x.2).map fun b => (.mk 5 (tok L s.p).at_ ByteArray.empty [x.1] b.1 [] [] [], mustS L b.2 tOd)
    else if isP L s tCobegin = true then
      (branL B L lv n [] true s.on).map fun q => (.mk 7 (tok L s.p).at_ ByteArray.empty [] [] [] q.1 [], mustS L q.2 tCoend)
    else if isP L s (b1 80) = true ∨ isP L s (b1 86) = true then
      some (.mk (if isP L s (b1 86) = true then 9 else 8) (tok L s.p).at_ (nameP L (mustS L s.on (b1 40))).name [] [] [] [] [], mustS L (nameS L (mustS L s.on (b1 40))) (b1 41))
    else if isP L s tRegion = true then
      if isP L (nameS L s.on) tWhen = true then
        (xP L n (.row 1 lv) (nameS L s.on).on).bind fun x => (blockP B L n tDo lv x.2).map fun b => (.mk 10 (tok L s.p).at_ (nameP L s.on).name [x.1] b.1 [] [] [], mustS L b.2 tOd)
      else (blockP B L n tDo lv (nameS L s.on)).map fun b => (.mk 10 (tok L s.p).at_ (nameP L s.on).name [] b.1 [] [] [], mustS L b.2 tOd)
    else if isP L s tRequest = true then
      (itemsL L n [] true s.on).map fun q => (.mk 11 (tok L s.p).at_ ByteArray.empty [] [] [] [] q.1, q.2)
    else if isP L s tRelease = true then
      (itemsL L n [] true s.on).map fun q => (.mk 12 (tok L s.p).at_ ByteArray.empty [] [] [] [] q.1, q.2)
    else if isP L s tRead = true then
      if isP L (nameS L s.on) (b1 91) = true then
        (xP L n (.index lv) (nameS L s.on)).map fun x => (.mk 14 (tok L s.p).at_ (nameP L s.on).name [x.1] [] [] [] [], x.2)
      else some (.mk 13 (tok L s.p).at_ (nameP L s.on).name [] [] [] [] [], nameS L s.on)
    else if isP L s tWrite = true then
      (xP L n (.row 1 lv) s.on).map fun x => (.mk 15 (tok L s.p).at_ ByteArray.empty [x.1] [] [] [] [], x.2)
    else some (.mk 0 (tok L s.p).at_ ByteArray.empty [] [] [] [] [], faultS L s 14)
def stmtsL (B : BrP) (L : List Tk) : Nat → Int → List Stm → Bool → PS → Option (List Stm × PS)
  | 0, _, _, _, _ => none
  | n + 1, lv, acc, again, s =>
    if again = true ∧ s.c = 0 then (stmtP B L n lv s).bind fun q => stmtsL B L n lv (acc ++ [q.1]) (isP L q.2 tSemi) (takeS L q.2 tSemi)
    else some (acc, s)
def blockP (B : BrP) (L : List Tk) : Nat → ByteArray → Int → PS → Option (List Stm × PS)
  | 0, _, _, _ => none
  | n + 1, o, lv, s =>
    if isP L s o = false then some ([], faultS L s 14)
    else if (opensS L s (lv + 1)).c ≠ 0 then some ([], opensS L s (lv + 1))
    else stmtsL B L n (lv + 1) [] true (opensS L s (lv + 1)).on
end
end Go.Vm.Parse
namespace Go.Vm.Parse
open Go Go.Proofs
set_option maxRecDepth 100000
set_option maxHeartbeats 1000000
set_option linter.unusedSimpArgs false
set_option linter.unusedVariables false
attribute [local simp] repCells_succ writeAt rd_Fr toList_beq gpe gpn spe gse gsn ne_r0 ne_l0 le_s0 ne_r1 ne_l1 lt_s1 le_s1 ne_r2 ne_l2 lt_s2 le_s2 ne_r3 ne_l3 lt_s3 le_s3 ne_r4 ne_l4 lt_s4 le_s4 ne_r5 ne_l5 lt_s5 le_s5 ne_r6 ne_l6 lt_s6 le_s6 ne_r7 ne_l7 lt_s7 le_s7
/-- What a call that reads a thing must give. -/
def RetR {α : Type} (ρ : Rep α) (H : Heap) (r lid : Nat) (L : List Tk) (a : α) (s : PS) (o : Out) (H' : Heap) : Prop :=
  ∃ cs, o = .val (.agg ⟨cs⟩) ∧ Same (· = r) H H' ∧ RD H' r lid L s ∧ ρ.R H' (fun i => H.n ≤ i) a cs
/-- Where a call that reads is: what stood is as it was, the reader has turned. -/
structure At (H : Heap) (r lid : Nat) (L : List Tk) (s : PS) (K : Heap) : Prop where
  same : Same (· = r) H K
  rd : RD K r lid L s
theorem At.n {H K : Heap} {r lid : Nat} {L : List Tk} {s : PS} (h : At H r lid L s K) : H.n ≤ K.n := h.same.n
theorem At.push {H K : Heap} {r lid : Nat} {L : List Tk} {s : PS} (h : At H r lid L s K) (o : AObj) : At H r lid L s (K.push o) := ⟨h.same.then_push o, h.rd.same (Same.push _ _ o)⟩
theorem At.go {H K K' : Heap} {r lid : Nat} {L : List Tk} {s s' : PS} (h : At H r lid L s K) (k : Same (· = r) K K') (h' : RD K' r lid L s') : At H r lid L s' K' := ⟨h.same.trans k, h'⟩
theorem At.set {H K : Heap} {r lid : Nat} {L : List Tk} {s : PS} (h : At H r lid L s K) (hr : r < H.n) (hl : lid < H.n) {i : Nat} (hi : H.n ≤ i) (hk : i < K.n) (o : AObj) : At H r lid L s (K.set i o) :=
  ⟨h.same.then_set hk (.inr hi) o, h.rd.keep (Same.set (X := fun j => j = i) K hk rfl o) (by omega) (by omega)⟩
theorem At.on {H K : Heap} {r lid : Nat} {L : List Tk} {s : PS} (h : At H r lid L s K) (hp : s.p < L.length) :
    At H r lid L s.on (K.set r (.row true 0 1 [.slice (some ⟨lid, 0, none⟩) L.length L.length, .int .i64 (s.p + 1), .int .i64 s.c, .int .i64 s.a])) := by
  obtain ⟨k, d⟩ := h.rd.on2 h.same hp
  exact ⟨k, d⟩
/-- What stands in an own row that is turned no more. -/
theorem _root_.Go.Vm.Rep.G_set {α : Type} (ρ : Rep α) {K : Heap} {S S' : Nat → Prop} {v : Value} {l : List α} (h : ρ.G K S v l) {i : Nat} (hi : i < K.n) (hs : ∀ j, S j → S' j ∧ j ≠ i) (o : AObj) : ρ.G (K.set i o) S' v l :=
  ρ.G_move (Same.set (X := fun j => j = i) K hi rfl o) (fun j hj _ => hs j hj) h
theorem tf_stm : TF Try.prog 38 8 := ⟨_, _, _, by simp, by simp, by simp; rfl, by omega, by simp; rfl, rfl, by omega, rfl⟩
theorem tf_bra : TF Try.prog 140 4 := ⟨_, _, _, by simp, by simp, by simp; rfl, by omega, by simp; rfl, rfl, by omega, rfl⟩
theorem pl_named : planOf Try.prog (drawN Try.f90 0) = some [(some (0, 2)), (some (0, 2)), none, none, none, none, none, none, none] := by decide +kernel
def z8 : List Value := [.int .i64 0, .int .i64 0, .string ByteArray.empty, .slice none 0 0, .slice none 0 0, .slice none 0 0, .slice none 0 0, .slice none 0 0]
def sOf (kind at_ : Int) (name : ByteArray) (e : Value) : List Value := [.int .i64 kind, .int .i64 at_, .string name, e, .slice none 0 0, .slice none 0 0, .slice none 0 0, .slice none 0 0]
/-- What is handed back by way of the variable that is handed back. -/
theorem ret_rep {α : Type} (ρ : Rep α) {H K : Heap} {r lid : Nat} {L : List Tk} {s' : PS} {z : AObj} (hr : r < H.n) (hl : lid < H.n) (h : At (H.push z) r lid L s' K) {a : α} {cs : List Value} (ha : ρ.R K (fun i => H.n + 1 ≤ i) a cs) (o : AObj) :
    RetR ρ H r lid L a s' (.val (.agg ⟨cs⟩)) (K.set H.n o) := by
  have hn := h.n
  simp at hn
  have ks : Same (fun i => i = H.n) K (K.set H.n o) := Same.set (X := fun i => i = H.n) K (by omega) rfl o
  exact ⟨cs, rfl, (Same.push _ _ _).trans h.same |>.then ks (fun i hi => .inr (by omega)), h.rd.keep ks (by omega) (by omega), ρ.move ks (fun i hi hlt => ⟨by omega, by omega⟩) _ _ ha⟩
section
variable {E : Hooks} (hE : Plain E) {r lid : Nat} {L : List Tk}
include hE
theorem named_run {n : Nat} {lv : Int} (h0 : 0 ≤ lv) (h24 : lv ≤ 24) {s s' : PS} {x : Stm} (hx : namedP L n lv s = some (x, s')) {H : Heap} (h : RD H r lid L s) : Gives ((run Try.prog E).call 90 [.pointer (some ⟨r, 0, none⟩), .int .i64 lv] H) (RetR repStm H r lid L x s') := by
  have hr := h.lt
  have hl := h.lid_lt
  have hsm := h.small
  have aP : At (H.push (.row true 0 1 z8)) r lid L s (H.push (.row true 0 1 z8)) := ⟨Same.refl _ _, h.same (Same.push _ _ _)⟩
  obtain ⟨HA, eA, kA, hA⟩ := name_run hE aP.rd
  have aA := aP.go kA hA
  have nA := kA.n
  simp at nA
  have aB := (aA.push (.row true 0 1 (nameP L s).cells)).push (.row true 0 1 (sOf 0 (nameP L s).at_ (nameP L s).name (.slice none 0 0)))
  obtain ⟨HB, eB, kB⟩ := is_run hE aB.rd (b1 40)
  have aC := aB.go (Same.none kB) (aB.rd.same kB)
  have nB := kB.n
  simp at nB
  have gB : HB.get (HA.n + 1) = .row true 0 1 (sOf 0 (nameP L s).at_ (nameP L s).name (.slice none 0 0)) := kB.at (Heap.get_push_self _ _) (by simp) (fun h => h)
  rw [c_named hE, callB, bodyOf]
  simp only [z8, Idn.cells, sOf, b1] at eA eB gB
  unfold namedP at hx
  by_cases c1 : isP L (nameS L s) (b1 40) = true
  · rw [if_pos c1] at hx
    simp only [Option.map_eq_some_iff] at hx
    obtain ⟨⟨l1, s1⟩, hx1, hx2⟩ := hx
    cases hx2
    have hC := aC.set (by simp; omega) (by simp; omega) (i := HA.n + 1) (by simp; omega) (by omega) (.row true 0 1 (sOf 6 (nameP L s).at_ (nameP L s).name (.slice none 0 0)))
    obtain ⟨o, HC, eC, v, rfl, kC, hCr, gC⟩ := args_run hE h0 h24 hx1 hC.rd
    have aD := hC.go kC hCr
    have nC := kC.n
    simp at nC
    have gC1 : HC.get (HA.n + 1) = .row true 0 1 (sOf 6 (nameP L s).at_ (nameP L s).name (.slice none 0 0)) := kC.at (Heap.get_set_self _ _ (by omega)) (by simp) (by omega)
    obtain ⟨b, rfl⟩ := repEx.G_slice gC
    simp only [b1] at c1
    simp only [sOf] at eC gC1
    have hlt : HA.n + 1 < HC.n := by omega
    have hlt2 : H.n < HC.n := by omega
    have gH : HC.get H.n = .row true 0 1 z8 := aD.same.at (Heap.get_push_self _ _) (by simp) (by omega)
    simp only [z8] at gH
    simp [Try.f90, eA, eB, gB, c1, eC, gC1, hlt, hlt2, gH, show ¬ H.n = HA.n + 1 by omega, show ¬ HA.n + 1 = H.n by omega]
    have hs := aD.set (i := HA.n + 1) (by simp; omega) (by simp; omega) (by simp; omega) (by omega) (.row true 0 1 (sOf 6 (nameP L s).at_ (nameP L s).name (.slice b l1.length l1.length)))
    refine ret_rep repStm hr hl hs ?_ _
    exact RS.put (repEx.G_set gC (by omega) (fun j hj => ⟨by simp at hj; omega, by simp at hj; omega⟩) _) (repStm.G_nil _ _) (repStm.G_nil _ _) (repBra.G_nil _ _) (repItm.G_nil _ _)
  rw [if_neg c1] at hx
  have c1' : isP L (nameS L s) (b1 40) = false := by simpa using c1
  have hC := aC.set (by simp; omega) (by simp; omega) (i := HA.n + 1) (by simp; omega) (by omega) (.row true 0 1 (sOf 2 (nameP L s).at_ (nameP L s).name (.slice none 0 0)))
  obtain ⟨HD, eD, kD⟩ := is_run hE hC.rd (b1 91)
  have aD := hC.go (Same.none kD) (hC.rd.same kD)
  have nD := kD.n
  simp at nD
  have gD : HD.get (HA.n + 1) = .row true 0 1 (sOf 2 (nameP L s).at_ (nameP L s).name (.slice none 0 0)) := kD.at (Heap.get_set_self _ _ (by omega)) (by simp) (fun h => h)
  have tail : ∀ (K : Heap) (kind : Int) (v : Value) (l : List Ex) (s2 s1 : PS) (x1 : Ex), l.length ≤ 1 → At (H.push (.row true 0 1 z8)) r lid L s2 K → K.get (HA.n + 1) = .row true 0 1 (sOf kind (nameP L s).at_ (nameP L s).name v) →
      repEx.G K (fun i => HB.n ≤ i) v l → HB.n ≤ K.n → xP L n (.row 1 lv) (mustS L s2 tSet) = some (x1, s1) →
      ∃ HF HG b m b' HI a1 a2 a3 a4 a5 a6, (run Try.prog E).call 36 [.pointer (some ⟨r, 0, none⟩), .string tSet] K = some (.val (.tuple #[]), HF) ∧ v = .slice b m m ∧
        HF.get (HA.n + 1) = .row true 0 1 (sOf kind (nameP L s).at_ (nameP L s).name (.slice b m m)) ∧
        (run Try.prog E).call 91 [.pointer (some ⟨r, 0, none⟩), .int .i64 1, .int .i64 lv] HF = some (.val (.agg ⟨[.int .i64 a1, .int .i64 a2, .int .i64 a3, .int .i64 a4, .string a5, a6]⟩), HG) ∧ isTuple a6 = false ∧
        HG.get (HA.n + 1) = .row true 0 1 (sOf kind (nameP L s).at_ (nameP L s).name (.slice b m m)) ∧ HG.n ≥ HF.n ∧ HA.n + 1 < HF.n ∧
        exAppend Try.prog [81, 81] (.slice b m m) (.slice (some ⟨HG.n, 0, none⟩) 1 1) (HG.push (.row true 0 6 [.int .i64 a1, .int .i64 a2, .int .i64 a3, .int .i64 a4, .string a5, a6])) = some (.slice b' (l.length + 1) (l.length + 1), HI) ∧
        HI.get (HA.n + 1) = .row true 0 1 (sOf kind (nameP L s).at_ (nameP L s).name (.slice b m m)) ∧ HA.n + 1 < HI.n ∧
        HI.get H.n = .row true 0 1 z8 ∧ At (H.push (.row true 0 1 z8)) r lid L s1 HI ∧ repEx.G HI (fun i => HB.n ≤ i) (.slice b' (l.length + 1) (l.length + 1)) (l ++ [x1]) := by
    intro K kind v l s2 s1 x1 hl1 aK gK hG hBK hxr
    obtain ⟨HF, eF, kF, hF⟩ := must_run hE aK.rd tSet
    obtain ⟨o, HG, eG, cs, rfl, kG, hG2, rG⟩ := (x_all hE n).1 _ _ _ _ _ hxr (by omega) (by omega) h0 h24 _ hF
    obtain ⟨a1, a2, a3, a4, a5, a6, rfl, h6, _⟩ := rG.six
    have nF := kF.n
    have nG := kG.n
    obtain ⟨b, rfl⟩ := repEx.G_slice hG
    have gF := kF.at gK (by simp) (by omega)
    have gG := kG.at gF (by simp) (by omega)
    have hGv : repEx.G HG (fun i => HB.n ≤ i) (.slice b l.length l.length) l := repEx.G_move (kF.trans kG) (fun i hi _ => ⟨hi, by omega⟩) hG
    have hvr : ∀ i, vid (.slice b l.length l.length) i → i < HG.n ∧ HB.n ≤ i := fun i hi => repEx.G_lt hGv hi
    have hvk : ∀ i, vid (.slice b l.length l.length) i → i < K.n := fun i hi => (repEx.G_lt hG hi).1
    obtain ⟨v', HI, eI, gI, kI⟩ := repEx.G_app tf_ex hGv (fun i hi => by omega) (by omega) (a := x1) (c := [.int .i64 a1, .int .i64 a2, .int .i64 a3, .int .i64 a4, .string a5, a6]) (RE.move (Same.refl (fun _ => False) _) (fun i hi _ => ⟨⟨by omega, fun e => by have := hvk _ e; omega⟩, fun h => h⟩) _ _ rG)
    obtain ⟨b', rfl⟩ := repEx.G_slice gI
    have nI := kI.n
    have aG := (aK.go kF hF).go kG hG2
    have aI : At (H.push (.row true 0 1 z8)) r lid L s1 HI := ⟨aG.same.then kI (fun i hi => .inr (by have := hvr _ hi; simp; omega)), aG.rd.keep kI (fun hi => by have := hvr _ hi; omega) (fun hi => by have := hvr _ hi; omega)⟩
    have nI' := aI.n
    simp only [List.length_append, List.length_cons, List.length_nil, Nat.zero_add] at eI gI
    exact ⟨HF, HG, b, l.length, b', HI, a1, a2, a3, a4, a5, a6, eF, rfl, gF, eG, h6, gG, nG, by omega, eI, kI.at gG (by simp) (fun hi => by have := hvr _ hi; omega), by omega, aI.same.at (Heap.get_push_self _ _) (by simp) (by omega), aI, gI⟩
  by_cases c2 : isP L (nameS L s) (b1 91) = true
  · rw [if_pos c2] at hx
    simp only [Option.bind_eq_some_iff, Option.map_eq_some_iff] at hx
    obtain ⟨⟨i1, s1⟩, hx1, ⟨x1, s2⟩, hx2, hx3⟩ := hx
    cases hx3
    have hE2 := aD.set (by simp; omega) (by simp; omega) (i := HA.n + 1) (by simp; omega) (by omega) (.row true 0 1 (sOf 3 (nameP L s).at_ (nameP L s).name (.slice none 0 0)))
    obtain ⟨o, HE, eE, cs, rfl, kE, hEr, rE⟩ := (x_all hE n).2.2 _ _ _ _ hx1 h0 h24 _ hE2.rd
    obtain ⟨i1', i2, i3, i4, i5, i6, rfl, hi6, _⟩ := rE.six
    have aE := hE2.go kE hEr
    have nE := kE.n
    simp at nE
    have gE : HE.get (HA.n + 1) = .row true 0 1 (sOf 3 (nameP L s).at_ (nameP L s).name (.slice none 0 0)) := kE.at (Heap.get_set_self _ _ (by omega)) (by simp) (by omega)
    have gv := repEx.G_one rE (fun j hj hl => ⟨hj, by omega⟩) (by simp; omega)
    have aX := (aE.push (.row true 0 6 [.int .i64 i1', .int .i64 i2, .int .i64 i3, .int .i64 i4, .string i5, i6])).set (by simp; omega) (by simp; omega) (i := HA.n + 1) (by simp; omega) (by simp; omega) (.row true 0 1 (sOf 3 (nameP L s).at_ (nameP L s).name (.slice (some ⟨HE.n, 0, none⟩) 1 1)))
    obtain ⟨HF, HG, b, m, b', HI, a1, a2, a3, a4, a5, a6, eF, ev, gF, eG, h6, gG, nG, nF, eI, gI, nI, gI0, aI, rI⟩ := tail _ 3 _ [i1] _ _ _ (by simp) aX (Heap.get_set_self _ _ (by simp; omega)) (repEx.G_set gv (by simp; omega) (fun j hj => ⟨by simp at hj; omega, by simp at hj; omega⟩) _) (by simp; omega) hx2
    cases ev
    have nI' := aI.n
    simp at nI'
    simp only [b1] at c1' c2 eD
    simp only [sOf, tSet, z8] at eD gD eE gE eF gF gG gI gI0
    have q1 : HA.n + 1 < HD.n := by omega
    have q2 : HA.n + 1 < HE.n := by omega
    have q3 : HA.n + 1 < HG.n := by omega
    have q4 : H.n < HI.n := by omega
    simp [Try.f90, eA, eB, gB, c1', eD, gD, c2, eE, hi6, gE, eF, q1, q2]
    refine region_plan (by exact pl_named) ?_
    simp [eG, h6, gF, gG, eI, gI, gI0, q3, q4, nI, show ¬ H.n = HA.n + 1 by omega, show ¬ HA.n + 1 = H.n by omega]
    have hs := aI.set (i := HA.n + 1) (by simp; omega) (by simp; omega) (by simp; omega) (by omega) (.row true 0 1 (sOf 3 (nameP L s).at_ (nameP L s).name (.slice b' 2 2)))
    refine ret_rep repStm hr hl hs ?_ _
    exact RS.put (repEx.G_set rI (by omega) (fun j hj => ⟨by omega, by omega⟩) _) (repStm.G_nil _ _) (repStm.G_nil _ _) (repBra.G_nil _ _) (repItm.G_nil _ _)
  · rw [if_neg c2] at hx
    have c2' : isP L (nameS L s) (b1 91) = false := by simpa using c2
    simp only [Option.map_eq_some_iff] at hx
    obtain ⟨⟨x1, s2⟩, hx2, hx3⟩ := hx
    cases hx3
    obtain ⟨HF, HG, b, m, b', HI, a1, a2, a3, a4, a5, a6, eF, ev, gF, eG, h6, gG, nG, nF, eI, gI, nI, gI0, aI, rI⟩ := tail _ 2 _ [] _ _ _ (by simp) aD gD (repEx.G_nil _ _) (by omega) hx2
    cases ev
    have nI' := aI.n
    simp at nI'
    simp only [b1] at c1' c2' eD
    simp only [sOf, tSet, z8] at eD gD eF gF gG gI gI0
    have q1 : HA.n + 1 < HD.n := by omega
    have q3 : HA.n + 1 < HG.n := by omega
    have q4 : H.n < HI.n := by omega
    simp [Try.f90, eA, eB, gB, c1', eD, gD, c2', eF, q1]
    refine region_plan (by exact pl_named) ?_
    simp at eI
    simp [eG, h6, gF, gG, eI, gI, gI0, q3, q4, nI, show ¬ H.n = HA.n + 1 by omega, show ¬ HA.n + 1 = H.n by omega]
    have hs := aI.set (i := HA.n + 1) (by simp; omega) (by simp; omega) (by simp; omega) (by omega) (.row true 0 1 (sOf 2 (nameP L s).at_ (nameP L s).name (.slice b' 1 1)))
    refine ret_rep repStm hr hl hs ?_ _
    exact RS.put (repEx.G_set rI (by omega) (fun j hj => ⟨by omega, by omega⟩) _) (repStm.G_nil _ _) (repStm.G_nil _ _) (repBra.G_nil _ _) (repItm.G_nil _ _)
end
end Go.Vm.Parse
namespace Go.Vm.Parse
open Go Go.Proofs
set_option maxRecDepth 100000
set_option maxHeartbeats 1000000
set_option linter.unusedSimpArgs false
set_option linter.unusedVariables false
/-- Reading goes on, and past what it began with, or there is a fault. -/
structure PS.lt (s s' : PS) : Prop where
  le : s.le s'
  on : s'.c = 0 → s.p < s'.p
theorem PS.lt_on (s : PS) : s.lt s.on := ⟨PS.le_on s, fun _ => Nat.lt_succ_self _⟩
theorem PS.lt.le_trans {a b c : PS} (h : a.lt b) (k : b.le c) : a.lt c := ⟨h.le.le_trans k, fun e => Nat.lt_of_lt_of_le (h.on (k.code e)) k.place⟩
theorem PS.le.lt_trans {a b c : PS} (h : a.le b) (k : b.lt c) : a.lt c := ⟨h.le_trans k.le, fun e => Nat.lt_of_le_of_lt h.place (k.on e)⟩
theorem fault_lt (L : List Tk) (s : PS) {c : Int} (hc : c ≠ 0) : s.lt (faultS L s c) := ⟨(faultS_le L s hc).1, fun h => absurd h (faultS_le L s hc).2⟩
theorem name_lt (L : List Tk) (s : PS) : s.lt (nameS L s) := ⟨(nameS_le L s).1, (nameS_le L s).2⟩
variable {L : List Tk}
theorem x_lt {n : Nat} {cmd : XC} {s s' : PS} {e : Ex} (h : xP L n cmd s = some (e, s')) (hc : cmd.isLoop = false := by rfl) : s.lt s' := ⟨(x_le L n cmd s e s' h).1, (x_le L n cmd s e s' h).2 hc⟩
theorem argsL_le {lv : Int} : ∀ {n : Nat} {acc : List Ex} {again : Bool} {s s' : PS} {l : List Ex}, argsL L lv n acc again s = some (l, s') → s.le s'
  | 0, _, _, _, _, _, h => by cases h
  | n + 1, acc, again, s, s', l, h => by
    rw [argsL] at h
    split at h
    · simp only [Option.bind_eq_some_iff] at h
      obtain ⟨⟨x, s1⟩, h1, h2⟩ := h
      exact ((x_lt h1).le.le_trans (takeS_le _ _ _)).le_trans (argsL_le h2)
    · cases h; exact PS.le_refl _
theorem argsP_le {n : Nat} {lv : Int} {s s' : PS} {l : List Ex} (h : argsP L n lv s = some (l, s')) : s.le s' := by
  unfold argsP at h
  split at h
  · cases h; exact (mustS_le _ _ _).le_trans (PS.le_on _)
  · simp only [Option.map_eq_some_iff] at h
    obtain ⟨⟨x, s1⟩, h1, h2⟩ := h
    cases h2
    exact ((mustS_le _ _ _).le_trans (argsL_le h1)).le_trans (mustS_le _ _ _)
theorem itemsL_le : ∀ {n : Nat} {acc : List Itm} {again : Bool} {s s' : PS} {l : List Itm}, itemsL L n acc again s = some (l, s') → s.le s'
  | 0, _, _, _, _, _, h => by cases h
  | n + 1, acc, again, s, s', l, h => by
    rw [itemsL] at h
    split at h
    · exact (((nameS_le L s).1.le_trans (numS_le _ _)).le_trans (takeS_le _ _ _)).le_trans (itemsL_le h)
    · cases h; exact PS.le_refl _
theorem namedP_lt {n : Nat} {lv : Int} {s s' : PS} {x : Stm} (h : namedP L n lv s = some (x, s')) : s.lt s' := by
  unfold namedP at h
  split at h
  · simp only [Option.map_eq_some_iff] at h
    obtain ⟨⟨x, s1⟩, h1, h2⟩ := h
    cases h2
    exact (name_lt L s).le_trans (argsP_le h1)
  · split at h
    · simp only [Option.bind_eq_some_iff, Option.map_eq_some_iff] at h
      obtain ⟨⟨i, s1⟩, h1, ⟨x, s2⟩, h2, h3⟩ := h
      cases h3
      exact (name_lt L s).le_trans (((x_lt h1).le.le_trans (mustS_le _ _ _)).le_trans (x_lt h2).le)
    · simp only [Option.map_eq_some_iff] at h
      obtain ⟨⟨x, s2⟩, h2, h3⟩ := h
      cases h3
      exact (name_lt L s).le_trans ((mustS_le _ _ _).le_trans (x_lt h2).le)
theorem branP_lt {n : Nat} {lv : Int} {s s' : PS} {b : Bra} (h : branP L n lv s = some (b, s')) : s.lt s' := by
  unfold branP at h
  simp only [Option.bind_eq_some_iff] at h
  obtain ⟨⟨a, s1⟩, h1, h2⟩ := h
  have h0 := (name_lt L s).le_trans (argsP_le h1)
  split at h2
  · simp only [Option.map_eq_some_iff] at h2
    obtain ⟨⟨x, s2⟩, h3, h4⟩ := h2
    cases h4
    exact h0.le_trans ((PS.le_on _).le_trans (itemsL_le h3))
  · cases h2; exact h0
def BLt (B : BrP) (L : List Tk) : Prop := ∀ n lv s b s', B L n lv s = some (b, s') → s.lt s'
theorem branL_le {B : BrP} (hB : BLt B L) {lv : Int} : ∀ {n : Nat} {acc : List Bra} {again : Bool} {s s' : PS} {l : List Bra}, branL B L lv n acc again s = some (l, s') → s.le s'
  | 0, _, _, _, _, _, h => by cases h
  | n + 1, acc, again, s, s', l, h => by
    rw [branL] at h
    split at h
    · simp only [Option.bind_eq_some_iff] at h
      obtain ⟨⟨x, s1⟩, h1, h2⟩ := h
      exact ((hB _ _ _ _ _ h1).le.le_trans (takeS_le _ _ _)).le_trans (branL_le hB h2)
    · cases h; exact PS.le_refl _
theorem st_le {B : BrP} (hB : BLt B L) : ∀ n, (∀ lv s x s', stmtP B L n lv s = some (x, s') → s.lt s') ∧ (∀ lv acc again s l s', stmtsL B L n lv acc again s = some (l, s') → s.le s') ∧ (∀ o lv s l s', blockP B L n o lv s = some (l, s') → s.le s') := by
  intro n
  induction n with
  | zero => exact ⟨fun _ _ _ _ h => (by rw [stmtP] at h; cases h), fun _ _ _ _ _ _ h => (by rw [stmtsL] at h; cases h), fun _ _ _ _ _ h => (by rw [blockP] at h; cases h)⟩
  | succ n ih =>
    refine ⟨?_, ?_, ?_⟩
    · intro lv s x s' h
      have on : s.lt s.on := PS.lt_on s
      rw [stmtP] at h
      by_cases c1 : (tok L s.p).kind = 1
      · rw [if_pos c1] at h; exact namedP_lt h
      rw [if_neg c1] at h
      by_cases c2 : isP L s tSkip = true
      · rw [if_pos c2] at h; cases h; exact on
      rw [if_neg c2] at h
      by_cases c3 : isP L s tIf = true
      · rw [if_pos c3] at h
        simp only [Option.bind_eq_some_iff] at h
        obtain ⟨⟨x1, s1⟩, h1, ⟨b1, s2⟩, h2, h3⟩ := h
        have k := on.le_trans ((x_lt h1).le.le_trans (ih.2.2 _ _ _ _ _ h2))
        split at h3
        · simp only [Option.map_eq_some_iff] at h3
          obtain ⟨⟨c1, s3⟩, h3, h4⟩ := h3
          cases h4
          exact (k.le_trans (ih.2.2 _ _ _ _ _ h3)).le_trans (mustS_le _ _ _)
        · cases h3; exact k.le_trans (mustS_le _ _ _)
      rw [if_neg c3] at h
      by_cases c4 : isP L s tWhile = true
      · rw [if_pos c4] at h
        simp only [Option.bind_eq_some_iff, Option.map_eq_some_iff] at h
        obtain ⟨⟨x1, s1⟩, h1, ⟨b1, s2⟩, h2, h3⟩ := h
        cases h3
        exact (on.le_trans ((x_lt h1).le.le_trans (ih.2.2 _ _ _ _ _ h2))).le_trans (mustS_le _ _ _)
      rw [if_neg c4] at h
      by_cases c5 : isP L s tCobegin = true
      · rw [if_pos c5] at h
        simp only [Option.map_eq_some_iff] at h
        obtain ⟨⟨b1, s2⟩, h2, h3⟩ := h
        cases h3
        exact (on.le_trans (branL_le hB h2)).le_trans (mustS_le _ _ _)
      rw [if_neg c5] at h
      by_cases c6 : isP L s (b1 80) = true ∨ isP L s (b1 86) = true
      · rw [if_pos c6] at h
        cases h
        exact ((on.le_trans (mustS_le _ _ _)).le_trans (nameS_le _ _).1).le_trans (mustS_le _ _ _)
      rw [if_neg c6] at h
      by_cases c7 : isP L s tRegion = true
      · rw [if_pos c7] at h
        have k := on.le_trans (nameS_le L s.on).1
        split at h
        · simp only [Option.bind_eq_some_iff, Option.map_eq_some_iff] at h
          obtain ⟨⟨x1, s1⟩, h1, ⟨b1, s2⟩, h2, h3⟩ := h
          cases h3
          exact (k.le_trans ((PS.le_on _).le_trans ((x_lt h1).le.le_trans (ih.2.2 _ _ _ _ _ h2)))).le_trans (mustS_le _ _ _)
        · simp only [Option.map_eq_some_iff] at h
          obtain ⟨⟨b1, s2⟩, h2, h3⟩ := h
          cases h3
          exact (k.le_trans (ih.2.2 _ _ _ _ _ h2)).le_trans (mustS_le _ _ _)
      rw [if_neg c7] at h
      by_cases c8 : isP L s tRequest = true
      · rw [if_pos c8] at h
        simp only [Option.map_eq_some_iff] at h
        obtain ⟨⟨b1, s2⟩, h2, h3⟩ := h
        cases h3
        exact on.le_trans (itemsL_le h2)
      rw [if_neg c8] at h
      by_cases c9 : isP L s tRelease = true
      · rw [if_pos c9] at h
        simp only [Option.map_eq_some_iff] at h
        obtain ⟨⟨b1, s2⟩, h2, h3⟩ := h
        cases h3
        exact on.le_trans (itemsL_le h2)
      rw [if_neg c9] at h
      by_cases c10 : isP L s tRead = true
      · rw [if_pos c10] at h
        have k := on.le_trans (nameS_le L s.on).1
        split at h
        · simp only [Option.map_eq_some_iff] at h
          obtain ⟨⟨b1, s2⟩, h2, h3⟩ := h
          cases h3
          exact k.le_trans (x_lt h2).le
        · cases h; exact k
      rw [if_neg c10] at h
      by_cases c11 : isP L s tWrite = true
      · rw [if_pos c11] at h
        simp only [Option.map_eq_some_iff] at h
        obtain ⟨⟨b1, s2⟩, h2, h3⟩ := h
        cases h3
        exact on.le_trans (x_lt h2).le
      rw [if_neg c11] at h
      cases h; exact fault_lt L s (by omega)
    · intro lv acc again s l s' h
      rw [stmtsL] at h
      split at h
      · simp only [Option.bind_eq_some_iff] at h
        obtain ⟨⟨x, s1⟩, h1, h2⟩ := h
        exact ((ih.1 _ _ _ _ h1).le.le_trans (takeS_le _ _ _)).le_trans (ih.2.1 _ _ _ _ _ _ h2)
      · cases h; exact PS.le_refl _
    · intro o lv s l s' h
      rw [blockP] at h
      split at h
      · cases h; exact (fault_lt L s (by omega)).le
      · split at h
        · cases h; exact opensS_le _ _ _
        · exact ((opensS_le _ _ _).le_trans (PS.le_on _)).le_trans (ih.2.1 _ _ _ _ _ _ h)
end Go.Vm.Parse
namespace Go.Vm.Parse
open Go Go.Proofs
set_option maxRecDepth 100000
set_option maxHeartbeats 1000000
set_option linter.unusedSimpArgs false
set_option linter.unusedVariables false
attribute [local simp] repCells_succ writeAt rd_Fr toList_beq gpe gpn spe gse gsn ne_r0 ne_l0 le_s0 ne_r1 ne_l1 lt_s1 le_s1 ne_r2 ne_l2 lt_s2 le_s2 ne_r3 ne_l3 lt_s3 le_s3 ne_r4 ne_l4 lt_s4 le_s4 ne_r5 ne_l5 lt_s5 le_s5 ne_r6 ne_l6 lt_s6 le_s6 ne_r7 ne_l7 lt_s7 le_s7
section
variable (E : Hooks) (B : BrP) (r lid : Nat) (L : List Tk)
def StmtOK (n : Nat) : Prop := ∀ lv s x s', stmtP B L n lv s = some (x, s') → 0 ≤ lv → lv ≤ 24 → ∀ H, RD H r lid L s →
  Gives ((run Try.prog E).call 77 [.pointer (some ⟨r, 0, none⟩), .int .i64 lv] H) (RetR repStm H r lid L x s')
def StmtsOK (n : Nat) : Prop := ∀ lv s l s', stmtsL B L n lv [] true s = some (l, s') → 0 ≤ lv → lv ≤ 24 → ∀ H, RD H r lid L s →
  Gives ((run Try.prog E).call 42 [.pointer (some ⟨r, 0, none⟩), .int .i64 lv] H) (RetG repStm H r lid L l s')
def BlockOK (n : Nat) : Prop := ∀ o lv s l s', blockP B L n o lv s = some (l, s') → 0 ≤ lv → lv ≤ 24 → ∀ H, RD H r lid L s →
  Gives ((run Try.prog E).call 92 [.pointer (some ⟨r, 0, none⟩), .string o, .int .i64 lv] H) (RetG repStm H r lid L l s')
/-- What is asked of 'branch'. -/
def BranOK : Prop := ∀ n lv s b s', B L n lv s = some (b, s') → 0 ≤ lv → lv ≤ 24 → ∀ H, RD H r lid L s →
  Gives ((run Try.prog E).call 93 [.pointer (some ⟨r, 0, none⟩), .int .i64 lv] H) (RetR repBra H r lid L b s')
end
def StmtsI (B : BrP) (r lid : Nat) (L : List Tk) (lv : Int) (H : Heap) (res : List Stm) (s' : PS) (n m : Nat) (t : List Value) (H' : Heap) : Prop :=
  m ≤ n ∧ ∃ acc again s v, stmtsL B L m lv acc again s = some (res, s') ∧ rd t 6 = .bool again ∧ rd t 5 = v ∧ repStm.G H' (fun i => H.n ≤ i) v acc ∧ RD H' r lid L s ∧ Same (· = r) H H' ∧ (s.c = 0 → acc.length ≤ s.p)
section
variable {E : Hooks} (hE : Plain E) {B : BrP} {r lid : Nat} {L : List Tk}
include hE
theorem stmts_walk (hB : BLt B L) {n : Nat} (ih : ∀ m, m < n → StmtOK E B r lid L m) : StmtsOK E B r lid L n := by
  intro lv s l s' hx h0 h24 H h
  have hr := h.lt
  have hl := h.lid_lt
  have hsm := h.small
  rw [c_stmts hE, callB, bodyOf]
  simp [Try.f42]
  refine loop_wp (StmtsI B r lid L lv H l s' n) n ?_ ?_
  · exact ⟨Nat.le_refl n, [], true, _, .slice (some ⟨H.n, 0, none⟩) 0 0, hx, by simp, by simp, repStm.G_empty H (Nat.le_refl _), h.same (Same.push _ _ _), Same.push _ _ _, fun _ => by simp⟩
  rintro m t H' hk ⟨hmn, acc, again, s2, v, hxl, g6, g5, hG, hR, hS, hlen⟩
  have ht : t.length = 23 := hk.1.trans (by simp [len_Bs])
  have hh := hk.all [0, 1] (by decide +kernel)
  simp at hh
  obtain ⟨t0, t1⟩ := hh
  have eb := bad_run hE hR
  have nS := hS.n
  cases m with
  | zero => rw [stmtsL] at hxl; cases hxl
  | succ m =>
  rw [stmtsL] at hxl
  by_cases hg : again = true ∧ s2.c = 0
  · rw [if_pos hg] at hxl
    obtain ⟨rfl, hc⟩ := hg
    simp only [Option.bind_eq_some_iff] at hxl
    obtain ⟨⟨x, s3⟩, hxa, hxb⟩ := hxl
    obtain ⟨o, HC, eC, cs, rfl, kC, hC, rC⟩ := ih m (by omega) _ _ _ _ hxa h0 h24 _ hR
    have hvr : ∀ i, vid v i → H.n ≤ i := fun i hi => (repStm.G_lt hG hi).2
    have hvl : ∀ i, vid v i → i < H'.n := fun i hi => (repStm.G_lt hG hi).1
    have nC := kC.n
    have hG2 := repStm.G_move kC (S' := fun i => H.n ≤ i) (fun i hi _ => ⟨hi, by omega⟩) hG
    have hmono := (st_le hB m).1 _ _ _ _ hxa
    obtain ⟨v', HD, eD, gD, kD⟩ := repStm.G_app tf_stm hG2 (fun i hi => by omega) (by have := hlen hc; have := hR.place; omega) (a := x) (c := cs) (RS.move (Same.refl (fun _ => False) _) (fun i hi _ => ⟨⟨by omega, fun e => by have := hvl _ e; omega⟩, fun h => h⟩) _ _ rC)
    have hD := hC.keep kD (fun hi => by have := hvr _ hi; omega) (fun hi => by have := hvr _ hi; omega)
    obtain ⟨HE2, eE, kE, hE2⟩ := take_run hE hD tSemi
    have nD := kD.n
    have kk : Same (· = r) H HD := (hS.trans kC).then kD (fun i hi => .inr (hvr i hi))
    obtain ⟨a1, a2, a3, b1, n1, c1, b2, n2, c2, b3, n3, c3, b4, n4, c4, b5, n5, c5, rfl⟩ := RS.eight rC
    simp only [tSemi] at eE
    simp only [repStm] at eD
    simp [ht, g6, g5, t0, t1, eb, hc, eC, eD, eE]
    refine ⟨m, by omega, by omega, _, _, _, v', hxb, by simp [ht, tSemi], by simp [ht], repStm.G_move kE (fun i hi _ => ⟨hi, by omega⟩) gD, hE2, kk.trans kE, fun e0 => ?_⟩
    have h1 := takeS_c L s3 tSemi
    have h2 := hmono.on (by rw [← h1.1]; exact e0)
    have h4 := hlen hc
    simp
    omega
  · rw [if_neg hg] at hxl
    cases hxl
    by_cases ha : again = true
    · have hc : ¬ s'.c = 0 := fun e => hg ⟨ha, e⟩
      subst ha
      simp [ht, g6, g5, t0, t1, eb, hc]
      exact ⟨v, rfl, hS, hR, hG⟩
    · have ha' : again = false := by simpa using ha
      subst ha'
      simp [ht, g6, g5, t0, t1]
      exact ⟨v, rfl, hS, hR, hG⟩
theorem block_walk {n : Nat} (ih : StmtsOK E B r lid L n) : BlockOK E B r lid L (n + 1) := by
  intro o lv s l s' hx h0 h24 H h
  have hr := h.lt
  have hsm := h.small
  obtain ⟨HA, eA, kA⟩ := is_run hE h o
  have hA := h.same kA
  rw [c_block hE, callB, bodyOf]
  rw [blockP] at hx
  by_cases c1 : isP L s o = false
  · rw [if_pos c1] at hx
    cases hx
    obtain ⟨HB, eB, kB, hB⟩ := fault_run hE hA 14
    simp [Try.f92, eA, c1, eB]
    exact ⟨_, rfl, (Same.none kA).trans kB, hB, repStm.G_nil _ _⟩
  rw [if_neg c1] at hx
  have c1' : isP L s o = true := by simpa using c1
  have hlt := isP_lt c1'
  obtain ⟨HB, eB, kB, hB⟩ := opens_run hE hA (lv + 1)
  have kAB : Same (· = r) H HB := (Same.none kA).trans kB
  have w1 := wrap64 (lv + 1) (by omega) (by omega)
  by_cases c2 : (opensS L s (lv + 1)).c ≠ 0
  · rw [if_pos c2] at hx
    cases hx
    simp [Try.f92, eA, c1', w1, eB, c2]
    exact ⟨_, rfl, kAB, hB, repStm.G_nil _ _⟩
  · rw [if_neg c2] at hx
    have c2' : (opensS L s (lv + 1)).c = 0 := by simpa using c2
    have hlv : ¬ 24 < lv + 1 := fun e => by
      unfold opensS at c2
      rw [if_pos e] at c2
      exact c2 (faultS_le L s (by omega)).2
    have hos : opensS L s (lv + 1) = s := by unfold opensS; rw [if_neg hlv]
    rw [hos] at hB hx c2' eB
    obtain ⟨kD, hD⟩ := hB.on kAB c2' hlt
    have w2 := wrap64 ((s.p : Int) + 1) (by omega) (by have := h.place; omega)
    have hobj := hB.obj
    obtain ⟨o', HC, eC, v, rfl, kC, hC, gC⟩ := ih _ _ _ _ hx (by omega) (by omega) _ hD
    obtain ⟨b, rfl⟩ := repStm.G_slice gC
    have nD := kD.n
    simp [Try.f92, eA, c1', w1, eB, c2', hobj, w2, eC]
    exact ⟨_, rfl, kD.trans kC, hC, repStm.G_move (Same.refl (fun _ => False) _) (fun i hi _ => ⟨by omega, fun h => h⟩) gC⟩
end
end Go.Vm.Parse
namespace Go.Vm.Parse
open Go Go.Proofs
set_option maxRecDepth 100000
set_option maxHeartbeats 1000000
set_option linter.unusedSimpArgs false
set_option linter.unusedVariables false
/-- Where a call that reads is, and what stands in a variable of its own. -/
structure Loc (Hp : Heap) (r lid : Nat) (L : List Tk) (sid : Nat) (s : PS) (sc : List Value) (K : Heap) : Prop where
  at_ : At Hp r lid L s K
  get : K.get sid = .row true 0 1 sc
  lt : sid < K.n
  own : Hp.n ≤ sid
  rl : r < Hp.n ∧ lid < Hp.n
section
variable {Hp : Heap} {r lid : Nat} {L : List Tk} {sid : Nat} {s s' : PS} {sc : List Value} {K K' : Heap}
theorem Loc.step (l : Loc Hp r lid L sid s sc K) (k : Same (· = r) K K') (h' : RD K' r lid L s') : Loc Hp r lid L sid s' sc K' :=
  ⟨l.at_.go k h', k.at l.get (by simp) (by have := l.own; have := l.rl.1; omega), Nat.lt_of_lt_of_le l.lt k.n, l.own, l.rl⟩
theorem Loc.put (l : Loc Hp r lid L sid s sc K) (sc' : List Value) : Loc Hp r lid L sid s sc' (K.set sid (.row true 0 1 sc')) :=
  ⟨l.at_.set l.rl.1 l.rl.2 l.own l.lt _, Heap.get_set_self _ _ l.lt, l.lt, l.own, l.rl⟩
theorem Loc.push (l : Loc Hp r lid L sid s sc K) (o : AObj) : Loc Hp r lid L sid s sc (K.push o) :=
  ⟨l.at_.push o, by rw [Heap.get_push, if_neg (Nat.ne_of_lt l.lt)]; exact l.get, Nat.lt_succ_of_lt l.lt, l.own, l.rl⟩
theorem Loc.on (l : Loc Hp r lid L sid s sc K) (hp : s.p < L.length) : Loc Hp r lid L sid s.on sc (K.set r (.row true 0 1 [.slice (some ⟨lid, 0, none⟩) L.length L.length, .int .i64 (s.p + 1), .int .i64 s.c, .int .i64 s.a])) :=
  ⟨l.at_.on hp, by
    have h1 := l.rl.1
    have h2 := l.own
    rw [Heap.get_set _ _ _ (Nat.lt_of_lt_of_le h1 l.at_.n), if_neg (by omega)]; exact l.get, l.lt, l.own, l.rl⟩
/-- What a list in the variable is. -/
theorem Loc.fld {α : Type} {ρ : Rep α} {v : Value} {q : List α} (l : Loc Hp r lid L sid s sc K) (h : ρ.G K (fun i => sid < i) v q) (k : Same (· = r) K K') : ρ.G K' (fun i => sid < i) v q :=
  ρ.G_move k (fun i hi _ => ⟨hi, by have := l.own; have := l.rl.1; omega⟩) h
theorem Loc.fld_put {α : Type} {ρ : Rep α} {v : Value} {q : List α} (l : Loc Hp r lid L sid s sc K) (h : ρ.G K (fun i => sid < i) v q) (o : AObj) : ρ.G (K.set sid o) (fun i => sid < i) v q :=
  ρ.G_set h l.lt (fun j hj => ⟨hj, by omega⟩) o
theorem Loc.fld_push {α : Type} {ρ : Rep α} {v : Value} {q : List α} (h : ρ.G K (fun i => sid < i) v q) (o : AObj) : ρ.G (K.push o) (fun i => sid < i) v q :=
  ρ.G_move (Same.push (fun _ => False) _ _) (fun i hi _ => ⟨hi, fun h => h⟩) h
theorem takeS_yes {x : ByteArray} (h : isP L s x = true) : takeS L s x = s.on := by unfold takeS; rw [if_pos h]; rfl
theorem takeS_no {x : ByteArray} (h : isP L s x = false) : takeS L s x = s := by unfold takeS; rw [if_neg (by simp [h])]
variable {E : Hooks} (hE : Plain E)
include hE
theorem Loc.take_yes (l : Loc Hp r lid L sid s sc K) {x : ByteArray} (h : isP L s x = true) : ∃ K', (run Try.prog E).call 39 [.pointer (some ⟨r, 0, none⟩), .string x] K = some (.val (.bool true), K') ∧ Loc Hp r lid L sid s.on sc K' ∧ Same (· = r) K K' := by
  obtain ⟨K', e, k, d⟩ := take_run hE l.at_.rd x
  rw [h] at e; rw [takeS_yes h] at d
  exact ⟨K', e, l.step k d, k⟩
theorem Loc.take_no (l : Loc Hp r lid L sid s sc K) {x : ByteArray} (h : isP L s x = false) : ∃ K', (run Try.prog E).call 39 [.pointer (some ⟨r, 0, none⟩), .string x] K = some (.val (.bool false), K') ∧ Loc Hp r lid L sid s sc K' ∧ Same (· = r) K K' := by
  obtain ⟨K', e, k, d⟩ := take_run hE l.at_.rd x
  rw [h] at e; rw [takeS_no h] at d
  exact ⟨K', e, l.step k d, k⟩
theorem Loc.is (l : Loc Hp r lid L sid s sc K) (x : ByteArray) : ∃ K', (run Try.prog E).call 76 [.pointer (some ⟨r, 0, none⟩), .string x] K = some (.val (.bool (isP L s x)), K') ∧ Loc Hp r lid L sid s sc K' ∧ Same (· = r) K K' := by
  obtain ⟨K', e, k⟩ := is_run hE l.at_.rd x
  exact ⟨K', e, l.step (Same.none k) (l.at_.rd.same k), Same.none k⟩
theorem Loc.must (l : Loc Hp r lid L sid s sc K) (x : ByteArray) : ∃ K', (run Try.prog E).call 36 [.pointer (some ⟨r, 0, none⟩), .string x] K = some (.val (.tuple #[]), K') ∧ Loc Hp r lid L sid (mustS L s x) sc K' ∧ Same (· = r) K K' := by
  obtain ⟨K', e, k, d⟩ := must_run hE l.at_.rd x
  exact ⟨K', e, l.step k d, k⟩
theorem Loc.fault (l : Loc Hp r lid L sid s sc K) (c : Int) : ∃ K', (run Try.prog E).call 44 [.pointer (some ⟨r, 0, none⟩), .int .i64 c] K = some (.val (.tuple #[]), K') ∧ Loc Hp r lid L sid (faultS L s c) sc K' ∧ Same (· = r) K K' := by
  obtain ⟨K', e, k, d⟩ := fault_run hE l.at_.rd c
  exact ⟨K', e, l.step k d, k⟩
theorem Loc.name (l : Loc Hp r lid L sid s sc K) : ∃ K', (run Try.prog E).call 37 [.pointer (some ⟨r, 0, none⟩)] K = some (.val (.agg ⟨[.int .i64 (nameP L s).at_, .string (nameP L s).name]⟩), K') ∧ Loc Hp r lid L sid (nameS L s) sc K' ∧ Same (· = r) K K' := by
  obtain ⟨K', e, k, d⟩ := name_run hE l.at_.rd
  exact ⟨K', e, l.step k d, k⟩
theorem Loc.num (l : Loc Hp r lid L sid s sc K) : ∃ K', (run Try.prog E).call 74 [.pointer (some ⟨r, 0, none⟩)] K = some (.val (.tuple #[.int .i64 (numP L s).1, .int .i64 (numP L s).2]), K') ∧ Loc Hp r lid L sid (numS L s) sc K' ∧ Same (· = r) K K' := by
  obtain ⟨K', e, k, d⟩ := num_run hE l.at_.rd
  exact ⟨K', e, l.step k d, k⟩
/-- An expression is read, and put into a row of one. -/
theorem Loc.expr (l : Loc Hp r lid L sid s sc K) {n : Nat} {lv : Int} {x : Ex} (hx : xP L n (.row 1 lv) s = some (x, s')) (h0 : 0 ≤ lv) (h24 : lv ≤ 24) :
    ∃ K' a1 a2 a3 a4 a5 a6, (run Try.prog E).call 91 [.pointer (some ⟨r, 0, none⟩), .int .i64 1, .int .i64 lv] K = some (.val (.agg ⟨[.int .i64 a1, .int .i64 a2, .int .i64 a3, .int .i64 a4, .string a5, a6]⟩), K') ∧ isTuple a6 = false ∧
      Loc Hp r lid L sid s' sc (K'.push (.row true 0 6 [.int .i64 a1, .int .i64 a2, .int .i64 a3, .int .i64 a4, .string a5, a6])) ∧
      (K'.push (.row true 0 6 [.int .i64 a1, .int .i64 a2, .int .i64 a3, .int .i64 a4, .string a5, a6])).get sid = .row true 0 1 sc ∧ sid < K'.n ∧
      repEx.G (K'.push (.row true 0 6 [.int .i64 a1, .int .i64 a2, .int .i64 a3, .int .i64 a4, .string a5, a6])) (fun i => sid < i) (.slice (some ⟨K'.n, 0, none⟩) 1 1) [x] ∧ Same (· = r) K K' := by
  obtain ⟨o, K', e, cs, rfl, k, d, rx⟩ := (x_all hE n).1 _ _ _ _ _ hx (by omega) (by omega) h0 h24 _ l.at_.rd
  obtain ⟨a1, a2, a3, a4, a5, a6, rfl, h6, _⟩ := rx.six
  have l2 := (l.step k d).push (.row true 0 6 [.int .i64 a1, .int .i64 a2, .int .i64 a3, .int .i64 a4, .string a5, a6])
  have nk := k.n
  have hlt := l.lt
  exact ⟨K', a1, a2, a3, a4, a5, a6, e, h6, l2, l2.get, by omega, repEx.G_one (RE.move (Same.refl (fun _ => False) _) (S' := fun i => sid < i) (fun i hi _ => ⟨by omega, fun h => h⟩) _ _ rx) (fun j hj hl => ⟨hj, by omega⟩) (by omega), k⟩
theorem Loc.index (l : Loc Hp r lid L sid s sc K) {n : Nat} {lv : Int} {x : Ex} (hx : xP L n (.index lv) s = some (x, s')) (h0 : 0 ≤ lv) (h24 : lv ≤ 24) :
    ∃ K' a1 a2 a3 a4 a5 a6, (run Try.prog E).call 94 [.pointer (some ⟨r, 0, none⟩), .int .i64 lv] K = some (.val (.agg ⟨[.int .i64 a1, .int .i64 a2, .int .i64 a3, .int .i64 a4, .string a5, a6]⟩), K') ∧ isTuple a6 = false ∧
      Loc Hp r lid L sid s' sc (K'.push (.row true 0 6 [.int .i64 a1, .int .i64 a2, .int .i64 a3, .int .i64 a4, .string a5, a6])) ∧
      (K'.push (.row true 0 6 [.int .i64 a1, .int .i64 a2, .int .i64 a3, .int .i64 a4, .string a5, a6])).get sid = .row true 0 1 sc ∧ sid < K'.n ∧
      repEx.G (K'.push (.row true 0 6 [.int .i64 a1, .int .i64 a2, .int .i64 a3, .int .i64 a4, .string a5, a6])) (fun i => sid < i) (.slice (some ⟨K'.n, 0, none⟩) 1 1) [x] ∧ Same (· = r) K K' := by
  obtain ⟨o, K', e, cs, rfl, k, d, rx⟩ := (x_all hE n).2.2 _ _ _ _ hx h0 h24 _ l.at_.rd
  obtain ⟨a1, a2, a3, a4, a5, a6, rfl, h6, _⟩ := rx.six
  have l2 := (l.step k d).push (.row true 0 6 [.int .i64 a1, .int .i64 a2, .int .i64 a3, .int .i64 a4, .string a5, a6])
  have nk := k.n
  have hlt := l.lt
  exact ⟨K', a1, a2, a3, a4, a5, a6, e, h6, l2, l2.get, by omega, repEx.G_one (RE.move (Same.refl (fun _ => False) _) (S' := fun i => sid < i) (fun i hi _ => ⟨by omega, fun h => h⟩) _ _ rx) (fun j hj hl => ⟨hj, by omega⟩) (by omega), k⟩
theorem Loc.items (l : Loc Hp r lid L sid s sc K) {n : Nat} {q : List Itm} (hx : itemsL L n [] true s = some (q, s')) :
    ∃ K' b m, (run Try.prog E).call 41 [.pointer (some ⟨r, 0, none⟩)] K = some (.val (.slice b m m), K') ∧ Loc Hp r lid L sid s' sc K' ∧ repItm.G K' (fun i => sid < i) (.slice b m m) q ∧ Same (· = r) K K' := by
  obtain ⟨o, K', e, v, rfl, k, d, g⟩ := items_run hE hx l.at_.rd
  obtain ⟨b, rfl⟩ := repItm.G_slice g
  have hlt := l.lt
  exact ⟨K', b, _, e, l.step k d, repItm.G_move (Same.refl (fun _ => False) _) (fun i hi _ => ⟨by omega, fun h => h⟩) g, k⟩
theorem Loc.block {B : BrP} {n : Nat} (ih : BlockOK E B r lid L n) (l : Loc Hp r lid L sid s sc K) {x : ByteArray} {lv : Int} {q : List Stm} (hx : blockP B L n x lv s = some (q, s')) (h0 : 0 ≤ lv) (h24 : lv ≤ 24) :
    ∃ K' b m, (run Try.prog E).call 92 [.pointer (some ⟨r, 0, none⟩), .string x, .int .i64 lv] K = some (.val (.slice b m m), K') ∧ Loc Hp r lid L sid s' sc K' ∧ repStm.G K' (fun i => sid < i) (.slice b m m) q ∧ Same (· = r) K K' := by
  have _ := hE
  obtain ⟨o, K', e, v, rfl, k, d, g⟩ := ih _ _ _ _ _ hx h0 h24 _ l.at_.rd
  obtain ⟨b, rfl⟩ := repStm.G_slice g
  have hlt := l.lt
  exact ⟨K', b, _, e, l.step k d, repStm.G_move (Same.refl (fun _ => False) _) (fun i hi _ => ⟨by omega, fun h => h⟩) g, k⟩
end
/-- A statement's cells. -/
def sc8 (k a : Int) (x : ByteArray) (v1 v2 v3 v4 v5 : Value) : List Value := [.int .i64 k, .int .i64 a, .string x, v1, v2, v3, v4, v5]
abbrev nl : Value := .slice none 0 0
/-- The statement is handed back. -/
theorem Loc.ret {H K : Heap} {r lid : Nat} {L : List Tk} {sid : Nat} {s' : PS} {sc : List Value} {z : AObj} (hr : r < H.n) (hl : lid < H.n) (l : Loc (H.push z) r lid L sid s' sc K) {x : Stm} (hx : RS K (fun i => sid < i) x sc) (o : AObj) :
    RetR repStm H r lid L x s' (.val (.agg ⟨sc⟩)) (K.set H.n o) := by
  have := l.own
  simp at this
  exact ret_rep repStm hr hl l.at_ (RS.move (Same.refl (fun _ => False) _) (fun i hi _ => ⟨by omega, fun h => h⟩) _ _ hx) o
end Go.Vm.Parse
