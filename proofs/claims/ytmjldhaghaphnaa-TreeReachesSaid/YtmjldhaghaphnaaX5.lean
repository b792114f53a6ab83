/- What is proved: the reader's statements for any fuel; its 'size'. What is defined and proved: declarations; the reader's 'decls'. What is defined and proved: procedures in plain words, and in the heap; the reader's 'proc'. What is proved: the reader's 'proc'. What is defined and proved: sources in plain words, and in the heap; 'Parse'. What is proved: 'Parse', of any source that is no longer than may be. What is proved: the reader's 'branch', and with it 'Parse' of any source. What is proved: the text of procedures that call each other is read without a fault. What is proved: strings put together, and made into bytes. What is proved: the maker of sources goes on, whatever its numbers are: its small steps. What is proved: the law's 'ring' makes just the text of procedures that call each other. What is proved: the readers of bytes, expressions, statements and sources answer, given steps enough. What is defined and proved: how whatever was read without a fault is made: which parts each kind of thing has. What is defined and proved: how much there is in what is read, and that it is no more than the tokens that were read; how a source is made that was read without a fault. What is defined and proved: when two sources are the same, but for their places; how much there is in one; lists that are only read. What is proved: the program's alike of two lists, whatever is compared. What is proved: the reference's comparison of lists of items, names, expressions, statements, and of sources. What is proved: the reference's comparison of lists of statements, and of sources. What is proved: the reference's comparison of sources. What is proved: the program's comparison of expressions, statements, procedures and sources. What is proved: the program's total of a list, whatever is counted. What is proved: the program's count of what is in a source. -/
import Derived.Test.YtmjldhaghaphnaaX4
set_option maxRecDepth 100000
set_option maxHeartbeats 4000000
set_option linter.unusedSimpArgs false
set_option linter.unusedVariables false
set_option linter.unusedSectionVars false
namespace Go.Vm.Parse
open Go Go.Proofs
attribute [local simp] repCells_succ writeAt rd_Fr toList_beq gpe gpn spe gse gsn ne_r0 ne_l0 le_s0 ne_r1 ne_l1 lt_s1 le_s1 ne_r2 ne_l2 lt_s2 le_s2 ne_r3 ne_l3 lt_s3 le_s3 ne_r4 ne_l4 lt_s4 le_s4 ne_r5 ne_l5 lt_s5 le_s5 ne_r6 ne_l6 lt_s6 le_s6 ne_r7 ne_l7 lt_s7 le_s7
section
variable {E : Hooks} (hE : Plain E) {B : BrP} {r lid : Nat} {L : List Tk}
include hE
theorem st_all (hB : BLt B L) (hBr : BranOK E B r lid L) : ∀ n, StmtOK E B r lid L n ∧ StmtsOK E B r lid L n ∧ BlockOK E B r lid L n := by
 intro n
 induction n using Nat.strongRecOn with
 | _ n ih =>
  have h2 := stmts_walk hE hB (n := n) fun m hm => (ih m hm).1
  cases n with
  | zero => exact ⟨fun _ _ _ _ h => (by rw [stmtP] at h; cases h), h2, fun _ _ _ _ _ h => (by rw [blockP] at h; cases h)⟩
  | succ n => exact ⟨stmt_walk hE hB hBr (ih n (by omega)).2.2, h2, block_walk hE (ih n (by omega)).2.1⟩
end
def unitS (L : List Tk) (s : PS) (q : Int × Int) : PS := if s.c = 0 ∧ (q.1 < 1 ∨ 64 < q.1) then { s with c := 24, a := q.2 } else s
def sizeP (L : List Tk) (s : PS) : Int × PS :=
 if isP L s (b1 91) = false then (0, s)
 else ((numP L s.on).1, mustS L (unitS L (numS L s.on) (numP L s.on)) (b1 93))
theorem unitS_le (L : List Tk) (s : PS) (q : Int × Int) : s.le (unitS L s q) := by
 unfold unitS
 split
 · exact ⟨Nat.le_refl _, fun h => by simp at h⟩
 · exact PS.le_refl _
theorem sizeP_le (L : List Tk) (s : PS) : s.le (sizeP L s).2 := by
 unfold sizeP
 split
 · exact PS.le_refl _
 · exact (((PS.le_on s).le_trans (numS_le _ _)).le_trans (unitS_le _ _ _)).le_trans (mustS_le _ _ _)
section
variable {E : Hooks} (hE : Plain E) {r lid : Nat} {L : List Tk}
include hE
theorem size_run {H : Heap} {s : PS} (h : RD H r lid L s) : ∃ H', (run Try.prog E).call 55 [.pointer (some ⟨r, 0, none⟩)] H = some (.val (.int .i64 (sizeP L s).1), H') ∧ Same (· = r) H H' ∧ RD H' r lid L (sizeP L s).2 := by
 refine of_gives ?_
 have hr := h.lt
 obtain ⟨HA, eA, kA, hA⟩ := take_run hE h (b1 91)
 rw [c_size hE, callB, bodyOf]
 simp only [b1] at eA
 unfold sizeP
 by_cases c1 : isP L s (b1 91) = false
 · rw [if_pos c1]
   rw [takeS_no c1] at hA
   simp only [b1] at c1
   simp [Try.f55, eA, c1]
   exact ⟨kA, hA⟩
 rw [if_neg c1]
 have c1' : isP L s (b1 91) = true := by simpa using c1
 rw [takeS_yes c1'] at hA
 obtain ⟨HB, eB, kB, hB⟩ := num_run hE hA
 have eb := bad_run hE hB
 have hobj := hB.obj
 have hrB := hB.lt
 generalize hq : numP L s.on = q at *
 generalize hs2 : numS L s.on = s2 at *
 simp only [b1] at c1'
 have fin : ∀ s3 K, Same (· = r) H K → RD K r lid L s3 → ∃ K', (run Try.prog E).call 17 [.pointer (some ⟨r, 0, none⟩), .string (b1 93)] K = some (.val (.tuple #[]), K') ∧ Same (· = r) H K' ∧ RD K' r lid L (mustS L s3 (b1 93)) := by
  intro s3 K k hK
  obtain ⟨K', e, k', d⟩ := must_run hE hK (b1 93)
  exact ⟨K', e, k.trans k', d⟩
 by_cases c2 : s2.c = 0
 · by_cases c3 : q.1 < 1
   · have hu : unitS L s2 q = { s2 with c := 24, a := q.2 } := by unfold unitS; rw [if_pos ⟨c2, .inl c3⟩]
     rw [hu]
     obtain ⟨KD, eD, kD, hD⟩ := fin _ _ ((kA.trans kB).then_set hrB (.inl rfl) _) (hB.turn { s2 with c := 24, a := q.2 } hB.place)
     simp only [b1] at eD
     simp [Try.f55, eA, c1', eB, eb, c2, c3, hobj, eD]
     exact ⟨kD, hD⟩
   · by_cases c4 : 64 < q.1
     · have hu : unitS L s2 q = { s2 with c := 24, a := q.2 } := by unfold unitS; rw [if_pos ⟨c2, .inr c4⟩]
       rw [hu]
       obtain ⟨KD, eD, kD, hD⟩ := fin _ _ ((kA.trans kB).then_set hrB (.inl rfl) _) (hB.turn { s2 with c := 24, a := q.2 } hB.place)
       simp only [b1] at eD
       simp [Try.f55, eA, c1', eB, eb, c2, c3, c4, hobj, eD]
       exact ⟨kD, hD⟩
     · have hu : unitS L s2 q = s2 := by unfold unitS; rw [if_neg (by rintro ⟨_, h | h⟩ <;> omega)]
       rw [hu]
       obtain ⟨KD, eD, kD, hD⟩ := fin _ _ (kA.trans kB) hB
       simp only [b1] at eD
       simp [Try.f55, eA, c1', eB, eb, c2, c3, c4, hobj, eD]
       exact ⟨kD, hD⟩
 · have hu : unitS L s2 q = s2 := by unfold unitS; rw [if_neg (fun h => c2 h.1)]
   rw [hu]
   obtain ⟨KD, eD, kD, hD⟩ := fin _ _ (kA.trans kB) hB
   simp only [b1] at eD
   simp [Try.f55, eA, c1', eB, eb, c2, hobj, eD]
   exact ⟨kD, hD⟩
end
structure Dcl where
 kind : Int
 at_ : Int
 name : ByteArray
 n : Int
def dsc (k a : Int) (x : ByteArray) (n : Int) : List Value := [.int .i64 k, .int .i64 a, .string x, .int .i64 n]
def repDcl : Rep Dcl where
 k := 4
 R _ _ x cs := cs = dsc x.kind x.at_ x.name x.n
 len h := by subst h; rfl
 move _ _ _ _ h := h
def tResource : ByteArray := ⟨#[114, 101, 115, 111, 117, 114, 99, 101]⟩
def tSemaphore : ByteArray := ⟨#[115, 101, 109, 97, 112, 104, 111, 114, 101]⟩
def tShared : ByteArray := ⟨#[115, 104, 97, 114, 101, 100]⟩
def tVar : ByteArray := ⟨#[118, 97, 114]⟩
def kindP (L : List Tk) (s : PS) : Int :=
 if isP L s tResource = true then 1 else if isP L s tSemaphore = true then 2 else if isP L s tShared = true then 3 else if isP L s tVar = true then 4 else 0
def unitsP (L : List Tk) (k : Int) (s : PS) : Int × PS := if k = 1 ∨ k = 2 then ((numP L s).1, numS L s) else sizeP L s
theorem unitsP_le (L : List Tk) (k : Int) (s : PS) : s.le (unitsP L k s).2 := by
 unfold unitsP
 split
 · exact numS_le _ _
 · exact sizeP_le _ _
def dclP (L : List Tk) (k : Int) (s : PS) : Dcl := ⟨k, (nameP L s).at_, (nameP L s).name, (unitsP L k (nameS L s)).1⟩
def dclS (L : List Tk) (k : Int) (s : PS) : PS := mustS L (unitsP L k (nameS L s)).2 tSemi
def declsL (L : List Tk) : Nat → List Dcl → PS → Option (List Dcl × PS)
 | 0, _, _ => none
 | n + 1, acc, s =>
  if s.c = 0 then
   if kindP L s = 0 then some (acc, s)
   else declsL L n (acc ++ [dclP L (kindP L s) s.on]) (dclS L (kindP L s) s.on)
  else some (acc, s)
theorem dclS_lt (L : List Tk) (k : Int) (s : PS) : s.le (dclS L k s) := ((nameS_le L s).1.le_trans (unitsP_le _ _ _)).le_trans (mustS_le _ _ _)
theorem declsL_le {L : List Tk} : ∀ {n : Nat} {acc : List Dcl} {s s' : PS} {l : List Dcl}, declsL L n acc s = some (l, s') → s.le s'
 | 0, _, _, _, _, h => by cases h
 | n + 1, acc, s, s', l, h => by
  rw [declsL] at h
  split at h
  · split at h
    · cases h; exact PS.le_refl _
    · exact ((PS.le_on s).le_trans (dclS_lt _ _ _)).le_trans (declsL_le h)
  · cases h; exact PS.le_refl _
theorem tf_dcl : TF Try.prog 24 4 := ⟨_, _, _, by simp, by simp, by simp; rfl, by omega, by simp; rfl, rfl, by omega, rfl⟩
theorem pl_decls : planOf Try.prog (drawN Try.f19 0) = some [none, none, (some (0, 1)), (some (0, 1)), none, none, none, none] := by decide +kernel
def DeclsI (r lid : Nat) (L : List Tk) (H : Heap) (res : List Dcl) (s' : PS) (n m : Nat) (t : List Value) (H' : Heap) : Prop :=
 m ≤ n ∧ ∃ acc s v, declsL L m acc s = some (res, s') ∧ rd t 3 = v ∧ repDcl.G H' (fun i => H.n ≤ i) v acc ∧ At H r lid L s H' ∧ acc.length ≤ s.p
section
variable {E : Hooks} (hE : Plain E) {r lid : Nat} {L : List Tk}
include hE
theorem decls_run {n : Nat} {s s' : PS} {l : List Dcl} (hx : declsL L n [] s = some (l, s')) {H : Heap} (h : RD H r lid L s) : Gives ((run Try.prog E).call 19 [.pointer (some ⟨r, 0, none⟩)] H) (RetG repDcl H r lid L l s') := by
 have hr := h.lt
 have hl := h.lid_lt
 have hsm := h.small
 rw [c_decls hE, callB, bodyOf]
 simp [Try.f19]
 refine loop_wp (DeclsI r lid L H l s' n) n ?_ ?_
 · exact ⟨Nat.le_refl n, [], _, .slice (some ⟨H.n, 0, none⟩) 0 0, hx, by simp, repDcl.G_empty H (Nat.le_refl _), ⟨Same.push _ _ _, h.same (Same.push _ _ _)⟩, by simp⟩
 rintro m t H' hk ⟨hmn, acc, s1, v, hxl, g3, hG, hA, hlen⟩
 have ht : t.length = 60 := hk.1.trans (by simp [len_Bs])
 have hh := hk.all [0] (by decide +kernel)
 simp at hh
 have eb := bad_run hE hA.rd
 have nS := hA.n
 cases m with
 | zero => cases hxl
 | succ m =>
 rw [declsL] at hxl
 by_cases hc : s1.c = 0
 · rw [if_pos hc] at hxl
   have l0 : Loc H r lid L H'.n s1 (dsc 0 0 ByteArray.empty 0) (H'.push (.row true 0 1 (dsc 0 0 ByteArray.empty 0))) :=
    ⟨hA.push _, Heap.get_push_self _ _, by simp, nS, hr, hl⟩
   have hvr : ∀ i, vid v i → i < H'.n ∧ H.n ≤ i := fun i hi => repDcl.G_lt hG hi
   have tail : ∀ (k : Int) (K : Heap), kindP L s1 = k → ¬ k = 0 → Loc H r lid L H'.n s1.on (dsc k 0 ByteArray.empty 0) K → repDcl.G K (fun i => H.n ≤ i ∧ i ≠ H'.n) v acc →
     ∃ KA KC KD v' KE, (run Try.prog E).call 18 [.pointer (some ⟨r, 0, none⟩)] K = some (.val (.agg ⟨[.int .i64 (nameP L s1.on).at_, .string (nameP L s1.on).name]⟩), KA) ∧ H'.n < KA.n ∧ KA.get H'.n = .row true 0 1 (dsc k 0 ByteArray.empty 0) ∧
      (k = 1 ∨ k = 2 → (run Try.prog E).call 54 [.pointer (some ⟨r, 0, none⟩)] ((KA.push (.row true 0 1 [.int .i64 (nameP L s1.on).at_, .string (nameP L s1.on).name])).set H'.n (.row true 0 1 (dsc k (nameP L s1.on).at_ (nameP L s1.on).name 0))) = some (.val (.tuple #[.int .i64 (unitsP L k (nameS L s1.on)).1, .int .i64 (numP L (nameS L s1.on)).2]), KC)) ∧
      (¬ (k = 1 ∨ k = 2) → (run Try.prog E).call 55 [.pointer (some ⟨r, 0, none⟩)] ((KA.push (.row true 0 1 [.int .i64 (nameP L s1.on).at_, .string (nameP L s1.on).name])).set H'.n (.row true 0 1 (dsc k (nameP L s1.on).at_ (nameP L s1.on).name 0))) = some (.val (.int .i64 (unitsP L k (nameS L s1.on)).1), KC)) ∧
      KC.get H'.n = .row true 0 1 (dsc k (nameP L s1.on).at_ (nameP L s1.on).name 0) ∧ H'.n < KC.n ∧
      (run Try.prog E).call 17 [.pointer (some ⟨r, 0, none⟩), .string tSemi] (KC.set H'.n (.row true 0 1 (dsc k (nameP L s1.on).at_ (nameP L s1.on).name (unitsP L k (nameS L s1.on)).1))) = some (.val (.tuple #[]), KD) ∧
      KD.get H'.n = .row true 0 1 (dsc k (nameP L s1.on).at_ (nameP L s1.on).name (unitsP L k (nameS L s1.on)).1) ∧
      exAppend Try.prog [24, 24] v (.slice (some ⟨KD.n, 0, none⟩) 1 1) (KD.push (.row true 0 4 (dsc k (nameP L s1.on).at_ (nameP L s1.on).name (unitsP L k (nameS L s1.on)).1))) = some (v', KE) ∧
      repDcl.G KE (fun i => H.n ≤ i) v' (acc ++ [dclP L k s1.on]) ∧ At H r lid L (dclS L k s1.on) KE := by
    intro k K hk1 hk0 lK gK
    obtain ⟨KA, eA, lA, kA⟩ := lK.name hE
    have lB := (lA.push (.row true 0 1 [.int .i64 (nameP L s1.on).at_, .string (nameP L s1.on).name])).put (dsc k (nameP L s1.on).at_ (nameP L s1.on).name 0)
    have nA := kA.n
    have tA := lA.lt
    have mv : ∀ {A B : Heap} {X : Nat → Prop}, repDcl.G A (fun i => H.n ≤ i ∧ i ≠ H'.n) v acc → Same X A B → (∀ i, X i → i = r ∨ i = H'.n) → repDcl.G B (fun i => H.n ≤ i ∧ i ≠ H'.n) v acc :=
     fun g k hX => repDcl.G_move k (fun i hi _ => ⟨hi, fun hx => by have := hX i hx; omega⟩) g
    have gA := mv gK kA (fun i h => .inl h)
    have gB := mv (mv gA (Same.push (fun _ => False) _ (.row true 0 1 [.int .i64 (nameP L s1.on).at_, .string (nameP L s1.on).name])) (fun _ h => h.elim)) (Same.set (X := fun i => i = H'.n) _ (by simp; omega) rfl (.row true 0 1 (dsc k (nameP L s1.on).at_ (nameP L s1.on).name 0))) (fun i h => .inr h)
    have mid : ∃ KC, (k = 1 ∨ k = 2 → (run Try.prog E).call 54 [.pointer (some ⟨r, 0, none⟩)] ((KA.push (.row true 0 1 [.int .i64 (nameP L s1.on).at_, .string (nameP L s1.on).name])).set H'.n (.row true 0 1 (dsc k (nameP L s1.on).at_ (nameP L s1.on).name 0))) = some (.val (.tuple #[.int .i64 (unitsP L k (nameS L s1.on)).1, .int .i64 (numP L (nameS L s1.on)).2]), KC)) ∧
      (¬ (k = 1 ∨ k = 2) → (run Try.prog E).call 55 [.pointer (some ⟨r, 0, none⟩)] ((KA.push (.row true 0 1 [.int .i64 (nameP L s1.on).at_, .string (nameP L s1.on).name])).set H'.n (.row true 0 1 (dsc k (nameP L s1.on).at_ (nameP L s1.on).name 0))) = some (.val (.int .i64 (unitsP L k (nameS L s1.on)).1), KC)) ∧
      Loc H r lid L H'.n (unitsP L k (nameS L s1.on)).2 (dsc k (nameP L s1.on).at_ (nameP L s1.on).name 0) KC ∧ Same (· = r) ((KA.push (.row true 0 1 [.int .i64 (nameP L s1.on).at_, .string (nameP L s1.on).name])).set H'.n (.row true 0 1 (dsc k (nameP L s1.on).at_ (nameP L s1.on).name 0))) KC := by
     by_cases hk : k = 1 ∨ k = 2
     · obtain ⟨KC, eC, lC, kC⟩ := lB.num hE
       have hu : unitsP L k (nameS L s1.on) = ((numP L (nameS L s1.on)).1, numS L (nameS L s1.on)) := by unfold unitsP; rw [if_pos hk]
       rw [hu]
       exact ⟨KC, fun _ => eC, fun h => absurd hk h, lC, kC⟩
     · obtain ⟨KC, eC, kC, dC⟩ := size_run hE lB.at_.rd
       have hu : unitsP L k (nameS L s1.on) = sizeP L (nameS L s1.on) := by unfold unitsP; rw [if_neg hk]
       rw [hu]
       exact ⟨KC, fun h => absurd h hk, fun _ => eC, lB.step kC dC, kC⟩
    obtain ⟨KC, eC1, eC2, lC, kC⟩ := mid
    have gC := mv gB kC (fun i h => .inl h)
    have lC2 := lC.put (dsc k (nameP L s1.on).at_ (nameP L s1.on).name (unitsP L k (nameS L s1.on)).1)
    have gC2 := mv gC (Same.set (X := fun i => i = H'.n) KC lC.lt rfl (.row true 0 1 (dsc k (nameP L s1.on).at_ (nameP L s1.on).name (unitsP L k (nameS L s1.on)).1))) (fun i h => .inr h)
    obtain ⟨KD, eD, lD, kD⟩ := lC2.must hE tSemi
    have gD := mv gC2 kD (fun i h => .inl h)
    have nD := lD.at_.n
    have tD := lD.lt
    have gD2 : repDcl.G KD (fun i => H.n ≤ i) v acc := repDcl.G_move (Same.refl (fun _ => False) _) (fun i hi _ => ⟨hi.1, fun h => h⟩) gD
    have hvD : ∀ i, vid v i → H.n ≤ i := fun i hi => (hvr i hi).2
    have hpl := hA.rd.place
    obtain ⟨v', KE, eE, gE, kE⟩ := repDcl.G_app tf_dcl gD2 (fun i hi => by omega) (by omega) (a := dclP L k s1.on) (c := dsc k (nameP L s1.on).at_ (nameP L s1.on).name (unitsP L k (nameS L s1.on)).1) rfl
    have aE : At H r lid L (dclS L k s1.on) KE := ⟨lD.at_.same.then kE (fun i hi => .inr (hvD i hi)), lD.at_.rd.keep kE (fun hi => by have := hvD _ hi; omega) (fun hi => by have := hvD _ hi; omega)⟩
    exact ⟨KA, KC, KD, v', KE, eA, tA, lA.get, eC1, eC2, lC.get, lC.lt, eD, lD.get, eE, gE, aE⟩
   have mv : ∀ {A B : Heap} {X : Nat → Prop}, repDcl.G A (fun i => H.n ≤ i ∧ i ≠ H'.n) v acc → Same X A B → (∀ i, X i → i = r ∨ i = H'.n) → repDcl.G B (fun i => H.n ≤ i ∧ i ≠ H'.n) v acc :=
    fun g k hX => repDcl.G_move k (fun i hi _ => ⟨hi, fun hx => by have := hX i hx; omega⟩) g
   have q0 := mv (repDcl.G_move (Same.refl (fun _ => False) _) (S' := fun i => H.n ≤ i ∧ i ≠ H'.n) (fun i hi hlt => ⟨⟨hi, by omega⟩, fun h => h⟩) hG) (Same.push (fun _ => False) _ (.row true 0 1 (dsc 0 0 ByteArray.empty 0))) (fun _ h => h.elim)
   simp only [dsc] at l0 q0
   by_cases c1 : isP L s1 tResource = true
   · have hk1 : kindP L s1 = 1 := by unfold kindP; simp [c1]
     rw [hk1, if_neg (by omega)] at hxl
     obtain ⟨K1, e1, l1, k1⟩ := l0.take_yes hE c1
     have q1 := mv q0 k1 (fun i h => .inl h)
     have lK := l1.put (dsc 1 0 ByteArray.empty 0)
     have qK := mv q1 (Same.set (X := fun i => i = H'.n) K1 l1.lt rfl (.row true 0 1 (dsc 1 0 ByteArray.empty 0))) (fun i h => .inr h)
     obtain ⟨KA, KC, KD, v', KE, eA, tA, gA, eN1, eN2, gC, tC, eD, gD, eE, gE, aE⟩ := tail 1 _ hk1 (by omega) lK qK
     have eN := eN1 (by omega)
     have gK := l1.get
     have tK := l1.lt
     have tD : H'.n < KD.n := Heap.lt_of_get gD (by simp)
     simp only [tResource, tSemi, dsc] at e1 gK eA gA eN gC eD gD eE
     simp [ht, g3, hh, eb, hc, e1, gK, tK, eA]
     refine region_plan (by exact pl_decls) ?_
     simp [ht, g3, hh, gA, tA, Heap.set_set, eN, gC, tC, eD, gD, tD, eE]
     refine ⟨m, by omega, by omega, _, _, v', hxl, by simp [ht], gE, aE, ?_⟩
     have := dclS_lt L 1 s1.on
     have := this.place
     simp [PS.on] at this ⊢
     omega
   have c1' : isP L s1 tResource = false := by simpa using c1
   obtain ⟨K1, e1, l1, k1⟩ := l0.take_no hE c1'
   have q1 := mv q0 k1 (fun i h => .inl h)
   simp only [tResource] at e1
   by_cases c2 : isP L s1 tSemaphore = true
   · have hk1 : kindP L s1 = 2 := by unfold kindP; simp [c1', c2]
     rw [hk1, if_neg (by omega)] at hxl
     obtain ⟨K2, e2, l2, k2⟩ := l1.take_yes hE c2
     have q2 := mv q1 k2 (fun i h => .inl h)
     have lK := l2.put (dsc 2 0 ByteArray.empty 0)
     have qK := mv q2 (Same.set (X := fun i => i = H'.n) K2 l2.lt rfl (.row true 0 1 (dsc 2 0 ByteArray.empty 0))) (fun i h => .inr h)
     obtain ⟨KA, KC, KD, v', KE, eA, tA, gA, eN1, eN2, gC, tC, eD, gD, eE, gE, aE⟩ := tail 2 _ hk1 (by omega) lK qK
     have eN := eN1 (by omega)
     have gK := l2.get
     have tK := l2.lt
     have tD : H'.n < KD.n := Heap.lt_of_get gD (by simp)
     simp only [tSemaphore, tSemi, dsc] at e2 gK eA gA eN gC eD gD eE
     simp [ht, g3, hh, eb, hc, e1, e2, gK, tK, eA]
     refine region_plan (by exact pl_decls) ?_
     simp [ht, g3, hh, gA, tA, Heap.set_set, eN, gC, tC, eD, gD, tD, eE]
     refine ⟨m, by omega, by omega, _, _, v', hxl, by simp [ht], gE, aE, ?_⟩
     have := dclS_lt L 2 s1.on
     have := this.place
     simp [PS.on] at this ⊢
     omega
   have c2' : isP L s1 tSemaphore = false := by simpa using c2
   obtain ⟨K2, e2, l2, k2⟩ := l1.take_no hE c2'
   have q2 := mv q1 k2 (fun i h => .inl h)
   simp only [tSemaphore] at e2
   by_cases c3 : isP L s1 tShared = true
   · have hk1 : kindP L s1 = 3 := by unfold kindP; simp [c1', c2', c3]
     rw [hk1, if_neg (by omega)] at hxl
     obtain ⟨K3, e3, l3, k3⟩ := l2.take_yes hE c3
     have q3 := mv q2 k3 (fun i h => .inl h)
     have lK := l3.put (dsc 3 0 ByteArray.empty 0)
     have qK := mv q3 (Same.set (X := fun i => i = H'.n) K3 l3.lt rfl (.row true 0 1 (dsc 3 0 ByteArray.empty 0))) (fun i h => .inr h)
     obtain ⟨KA, KC, KD, v', KE, eA, tA, gA, eN1, eN2, gC, tC, eD, gD, eE, gE, aE⟩ := tail 3 _ hk1 (by omega) lK qK
     have eN := eN2 (by omega)
     have gK := l3.get
     have tK := l3.lt
     have tD : H'.n < KD.n := Heap.lt_of_get gD (by simp)
     simp only [tShared, tSemi, dsc] at e3 gK eA gA eN gC eD gD eE
     simp [ht, g3, hh, eb, hc, e1, e2, e3, gK, tK, eA]
     refine region_plan (by exact pl_decls) ?_
     simp [ht, g3, hh, gA, tA, Heap.set_set, eN, gC, tC, eD, gD, tD, eE]
     refine ⟨m, by omega, by omega, _, _, v', hxl, by simp [ht], gE, aE, ?_⟩
     have := dclS_lt L 3 s1.on
     have := this.place
     simp [PS.on] at this ⊢
     omega
   have c3' : isP L s1 tShared = false := by simpa using c3
   obtain ⟨K3, e3, l3, k3⟩ := l2.take_no hE c3'
   have q3 := mv q2 k3 (fun i h => .inl h)
   simp only [tShared] at e3
   by_cases c4 : isP L s1 tVar = true
   · have hk1 : kindP L s1 = 4 := by unfold kindP; simp [c1', c2', c3', c4]
     rw [hk1, if_neg (by omega)] at hxl
     obtain ⟨K4, e4, l4, k4⟩ := l3.take_yes hE c4
     have q4 := mv q3 k4 (fun i h => .inl h)
     have lK := l4.put (dsc 4 0 ByteArray.empty 0)
     have qK := mv q4 (Same.set (X := fun i => i = H'.n) K4 l4.lt rfl (.row true 0 1 (dsc 4 0 ByteArray.empty 0))) (fun i h => .inr h)
     obtain ⟨KA, KC, KD, v', KE, eA, tA, gA, eN1, eN2, gC, tC, eD, gD, eE, gE, aE⟩ := tail 4 _ hk1 (by omega) lK qK
     have eN := eN2 (by omega)
     have gK := l4.get
     have tK := l4.lt
     have tD : H'.n < KD.n := Heap.lt_of_get gD (by simp)
     simp only [tVar, tSemi, dsc] at e4 gK eA gA eN gC eD gD eE
     simp [ht, g3, hh, eb, hc, e1, e2, e3, e4, gK, tK, eA]
     refine region_plan (by exact pl_decls) ?_
     simp [ht, g3, hh, gA, tA, Heap.set_set, eN, gC, tC, eD, gD, tD, eE]
     refine ⟨m, by omega, by omega, _, _, v', hxl, by simp [ht], gE, aE, ?_⟩
     have := dclS_lt L 4 s1.on
     have := this.place
     simp [PS.on] at this ⊢
     omega
   have c4' : isP L s1 tVar = false := by simpa using c4
   obtain ⟨K4, e4, l4, k4⟩ := l3.take_no hE c4'
   have q4 := mv q3 k4 (fun i h => .inl h)
   simp only [tVar] at e4
   have hk0 : kindP L s1 = 0 := by unfold kindP; simp [c1', c2', c3', c4']
   rw [if_pos hk0] at hxl
   cases hxl
   simp [ht, g3, hh, eb, hc, e1, e2, e3, e4]
   exact ⟨v, rfl, l4.at_.same, l4.at_.rd, repDcl.G_move (Same.refl (fun _ => False) _) (fun i hi _ => ⟨hi.1, fun h => h⟩) q4⟩
 · rw [if_neg hc] at hxl
   cases hxl
   simp [ht, g3, hh, eb, hc]
   exact ⟨v, rfl, hA.same, hA.rd, hG⟩
end
def repIdn : Rep Idn where
 k := 2
 R _ _ x cs := cs = x.cells
 len h := by subst h; rfl
 move _ _ _ _ h := h
structure Prc where
 at_ : Int
 name : ByteArray
 params : List Idn
 vars : List Idn
 body : List Stm
def pc5 (a : Int) (x : ByteArray) (v1 v2 v3 : Value) : List Value := [.int .i64 a, .string x, v1, v2, v3]
def RPrc (H : Heap) (S : Nat → Prop) (p : Prc) (cs : List Value) : Prop := ∃ v1 v2 v3, cs = pc5 p.at_ p.name v1 v2 v3 ∧ repIdn.G H S v1 p.params ∧ repIdn.G H S v2 p.vars ∧ repStm.G H S v3 p.body
def repPrc : Rep Prc where
 k := 5
 R := RPrc
 len h := by obtain ⟨v1, v2, v3, rfl, _⟩ := h; rfl
 move k hs b cs h := by
  obtain ⟨v1, v2, v3, e, h1, h2, h3⟩ := h
  exact ⟨v1, v2, v3, e, repIdn.G_move k hs h1, repIdn.G_move k hs h2, repStm.G_move k hs h3⟩
def tBegin : ByteArray := ⟨#[98, 101, 103, 105, 110]⟩
def tEnd : ByteArray := ⟨#[101, 110, 100]⟩
def identsL (L : List Tk) : Nat → List Idn → Bool → PS → Option (List Idn × PS)
 | 0, _, _, _ => none
 | n + 1, acc, again, s =>
  if again = true ∧ s.c = 0 then identsL L n (acc ++ [nameP L s]) (isP L (nameS L s) comma) (takeS L (nameS L s) comma) else some (acc, s)
def varsL (L : List Tk) : Nat → List Idn → PS → Option (List Idn × PS)
 | 0, _, _ => none
 | n + 1, acc, s =>
  if isP L s tVar = true then varsL L n (acc ++ [nameP L s.on]) (mustS L (nameS L s.on) tSemi) else some (acc, s)
def paramsP (L : List Tk) (n : Nat) (s : PS) : Option (List Idn × PS) :=
 if isP L s (b1 41) = true then some ([], s) else identsL L n [] true s
def procP (B : BrP) (L : List Tk) (n : Nat) (s : PS) : Option (Prc × PS) :=
 (paramsP L n (mustS L (nameS L s) (b1 40))).bind fun a =>
  (varsL L n [] (mustS L (mustS L a.2 (b1 41)) tSemi)).bind fun b =>
   (stmtsL B L n 1 [] true (mustS L b.2 tBegin)).map fun c =>
    (⟨(nameP L s).at_, (nameP L s).name, a.1, b.1, c.1⟩, mustS L (mustS L c.2 tEnd) tSemi)
theorem identsL_le {L : List Tk} : ∀ {n : Nat} {acc : List Idn} {again : Bool} {s s' : PS} {l : List Idn}, identsL L n acc again s = some (l, s') → s.le s'
 | 0, _, _, _, _, _, h => by cases h
 | n + 1, acc, again, s, s', l, h => by
  rw [identsL] at h
  split at h
  · exact ((nameS_le L s).1.le_trans (takeS_le _ _ _)).le_trans (identsL_le h)
  · cases h; exact PS.le_refl _
theorem varsL_le {L : List Tk} : ∀ {n : Nat} {acc : List Idn} {s s' : PS} {l : List Idn}, varsL L n acc s = some (l, s') → s.le s'
 | 0, _, _, _, _, h => by cases h
 | n + 1, acc, s, s', l, h => by
  rw [varsL] at h
  split at h
  · exact (((PS.le_on s).le_trans (nameS_le L s.on).1).le_trans (mustS_le _ _ _)).le_trans (varsL_le h)
  · cases h; exact PS.le_refl _
theorem procP_lt {B : BrP} {L : List Tk} (hB : BLt B L) {n : Nat} {s s' : PS} {p : Prc} (h : procP B L n s = some (p, s')) : s.lt s' := by
 unfold procP at h
 simp only [Option.bind_eq_some_iff, Option.map_eq_some_iff] at h
 obtain ⟨⟨a, s1⟩, h1, ⟨b, s2⟩, h2, ⟨c, s3⟩, h3, h4⟩ := h
 cases h4
 have k1 : (mustS L (nameS L s) (b1 40)).le s1 := by
  unfold paramsP at h1
  split at h1
  · cases h1; exact PS.le_refl _
  · exact identsL_le h1
 exact (name_lt L s).le_trans ((((mustS_le _ _ _).le_trans k1).le_trans (((mustS_le _ _ _).le_trans (mustS_le _ _ _)).le_trans (varsL_le h2))).le_trans (((mustS_le _ _ _).le_trans ((st_le hB n).2.1 _ _ _ _ _ _ h3)).le_trans ((mustS_le _ _ _).le_trans (mustS_le _ _ _))))
theorem tf_idn : TF Try.prog 40 2 := ⟨_, _, _, by simp, by simp, by simp; rfl, by omega, by simp; rfl, rfl, by omega, rfl⟩
theorem tf_prc : TF Try.prog 25 5 := ⟨_, _, _, by simp, by simp, by simp; rfl, by omega, by simp; rfl, rfl, by omega, rfl⟩
theorem pl_proc0 : planOf Try.prog (drawN Try.f21 0) = some [(some (0, 2)), (some (0, 2)), none, none, none, none, none, none] := by decide +kernel
theorem pl_proc1 : planOf Try.prog (drawN Try.f21 1) = some [(some (0, 2)), (some (0, 2)), none, none, none, none, none, none] := by decide +kernel
theorem Loc.grow {α : Type} (ρ : Rep α) {t : TypeId} (T : TF Try.prog t ρ.k) {Hp : Heap} {r lid : Nat} {L : List Tk} {sid : Nat} {s : PS} {sc : List Value} {K : Heap} (l : Loc Hp r lid L sid s sc K) {v : Value} {acc : List α}
  (g : ρ.G K (fun i => sid < i) v acc) (hl : acc.length ≤ 100000) {a : α} {c : List Value} (ha : ρ.R K (fun i => sid < i ∧ ¬ vid v i) a c) :
  ∃ b' K', exAppend Try.prog [t, t] v (.slice (some ⟨K.n, 0, none⟩) 1 1) (K.push (.row true 0 ρ.k c)) = some (.slice b' (acc.length + 1) (acc.length + 1), K') ∧ Loc Hp r lid L sid s sc K' ∧ K'.get sid = .row true 0 1 sc ∧ sid < K'.n ∧ ρ.G K' (fun i => sid < i) (.slice b' (acc.length + 1) (acc.length + 1)) (acc ++ [a]) := by
 have t1 := l.lt
 have ow := l.own
 have rl := l.rl
 have hv : ∀ i, vid v i → sid < i := fun i hi => (ρ.G_lt g hi).2
 obtain ⟨v', K', e, gv, k⟩ := ρ.G_app T g (fun i hi => by omega) hl ha
 have nk := k.n
 obtain ⟨b', rfl⟩ := ρ.G_slice gv
 have e1 : (acc ++ [a]).length = acc.length + 1 := by simp
 rw [e1] at e gv
 have g2 := k.at l.get (by simp) (fun hi => by have := hv _ hi; omega)
 exact ⟨b', K', e, ⟨⟨l.at_.same.then k (fun i hi => .inr (by have := hv _ hi; omega)), l.at_.rd.keep k (fun hi => by have := hv _ hi; omega) (fun hi => by have := hv _ hi; omega)⟩, g2, by omega, ow, rl⟩, g2, by omega, gv⟩
theorem Loc.grow2 {α : Type} (ρ : Rep α) {t : TypeId} (T : TF Try.prog t ρ.k) {Hp : Heap} {r lid : Nat} {L : List Tk} {sid : Nat} {s : PS} {sc : List Value} {K : Heap} (l : Loc Hp r lid L sid s sc K) {v : Value} {acc : List α} {bd : Nat} (hbd : sid < bd) (hbk : bd ≤ K.n)
  (g : ρ.G K (fun i => bd ≤ i) v acc) (hl : acc.length ≤ 100000) {a : α} {c : List Value} (ha : ρ.R K (fun i => bd ≤ i ∧ ¬ vid v i) a c) :
  ∃ b' K', exAppend Try.prog [t, t] v (.slice (some ⟨K.n, 0, none⟩) 1 1) (K.push (.row true 0 ρ.k c)) = some (.slice b' (acc.length + 1) (acc.length + 1), K') ∧ Loc Hp r lid L sid s sc K' ∧ K'.get sid = .row true 0 1 sc ∧ sid < K'.n ∧ ρ.G K' (fun i => bd ≤ i) (.slice b' (acc.length + 1) (acc.length + 1)) (acc ++ [a]) ∧ Same (fun i => bd ≤ i) K K' := by
 have t1 := l.lt
 have ow := l.own
 have rl := l.rl
 have hv : ∀ i, vid v i → bd ≤ i := fun i hi => (ρ.G_lt g hi).2
 obtain ⟨v', K', e, gv, k⟩ := ρ.G_app T g (fun i hi => by omega) hl ha
 have nk := k.n
 obtain ⟨b', rfl⟩ := ρ.G_slice gv
 have e1 : (acc ++ [a]).length = acc.length + 1 := by simp
 rw [e1] at e gv
 have g2 := k.at l.get (by simp) (fun hi => by have := hv _ hi; omega)
 exact ⟨b', K', e, ⟨⟨l.at_.same.then k (fun i hi => .inr (by have := hv _ hi; omega)), l.at_.rd.keep k (fun hi => by have := hv _ hi; omega) (fun hi => by have := hv _ hi; omega)⟩, g2, by omega, ow, rl⟩, g2, by omega, gv, k.mono hv⟩
def ProcJ (r lid : Nat) (L : List Tk) (H : Heap) (at_ : Int) (name : ByteArray) (res : List Idn) (s' : PS) (t : List Value) (K : Heap) : Prop :=
 ∃ sid v, H.n < sid ∧ Loc (H.push (.row true 0 1 (pc5 0 ByteArray.empty nl nl nl))) r lid L sid s' (pc5 at_ name v nl nl) K ∧ repIdn.G K (fun i => sid < i) v res ∧
  t.length = 58 ∧ rd t 0 = .pointer (some ⟨r, 0, none⟩) ∧ rd t 2 = .pointer (some ⟨H.n, 0, none⟩) ∧ rd t 4 = .pointer (some ⟨sid, 0, none⟩)
def IdentsI (r lid : Nat) (L : List Tk) (H : Heap) (sid : Nat) (at_ : Int) (name : ByteArray) (res : List Idn) (s' : PS) (n m : Nat) (t : List Value) (K : Heap) : Prop :=
 m ≤ n ∧ ∃ acc again s v, identsL L m acc again s = some (res, s') ∧ rd t 5 = .bool again ∧ Loc (H.push (.row true 0 1 (pc5 0 ByteArray.empty nl nl nl))) r lid L sid s (pc5 at_ name v nl nl) K ∧ repIdn.G K (fun i => sid < i) v acc ∧ (s.c = 0 → acc.length ≤ s.p)
def VarsI (r lid : Nat) (L : List Tk) (H : Heap) (sid : Nat) (at_ : Int) (name : ByteArray) (ps : List Idn) (v : Value) (bd : Nat) (res : List Idn) (s' : PS) (n m : Nat) (t : List Value) (K : Heap) : Prop :=
 m ≤ n ∧ ∃ acc s w, varsL L m acc s = some (res, s') ∧ Loc (H.push (.row true 0 1 (pc5 0 ByteArray.empty nl nl nl))) r lid L sid s (pc5 at_ name v w nl) K ∧ repIdn.G K (fun i => sid < i ∧ i < bd) v ps ∧ repIdn.G K (fun i => bd ≤ i) w acc ∧ acc.length ≤ s.p ∧ bd ≤ K.n
def VarsJ (r lid : Nat) (L : List Tk) (H : Heap) (sid : Nat) (at_ : Int) (name : ByteArray) (ps vs : List Idn) (s' : PS) (t : List Value) (K : Heap) : Prop :=
 ∃ v w, Loc (H.push (.row true 0 1 (pc5 0 ByteArray.empty nl nl nl))) r lid L sid s' (pc5 at_ name v w nl) K ∧ repIdn.G K (fun i => sid < i) v ps ∧ repIdn.G K (fun i => sid < i) w vs ∧
  t.length = 58 ∧ rd t 0 = .pointer (some ⟨r, 0, none⟩) ∧ rd t 2 = .pointer (some ⟨H.n, 0, none⟩) ∧ rd t 4 = .pointer (some ⟨sid, 0, none⟩)
section
variable {E : Hooks} (hE : Plain E) {B : BrP} {r lid : Nat} {L : List Tk}
include hE
theorem proc_run {n : Nat} (ih : StmtsOK E B r lid L n) {s s' : PS} {p : Prc} (hx : procP B L n s = some (p, s')) {H : Heap} (h : RD H r lid L s) : Gives ((run Try.prog E).call 21 [.pointer (some ⟨r, 0, none⟩)] H) (RetR repPrc H r lid L p s') := by
 have hr := h.lt
 have hl := h.lid_lt
 have hsm := h.small
 have aP : At (H.push (.row true 0 1 (pc5 0 ByteArray.empty nl nl nl))) r lid L s (H.push (.row true 0 1 (pc5 0 ByteArray.empty nl nl nl))) := ⟨Same.refl _ _, h.same (Same.push _ _ _)⟩
 obtain ⟨HA, eA, kA, hA⟩ := name_run hE aP.rd
 have aA := aP.go kA hA
 have nA := kA.n
 simp at nA
 unfold procP at hx
 simp only [Option.bind_eq_some_iff, Option.map_eq_some_iff] at hx
 obtain ⟨⟨ps, s1⟩, hx1, ⟨vs, s2⟩, hx2, ⟨bd, s3⟩, hx3, hx4⟩ := hx
 cases hx4
 generalize hnm : nameP L s = nm at *
 have aB := (aA.push (.row true 0 1 nm.cells)).push (.row true 0 1 (pc5 nm.at_ nm.name nl nl nl))
 have l0 : Loc (H.push (.row true 0 1 (pc5 0 ByteArray.empty nl nl nl))) r lid L (HA.n + 1) (nameS L s) (pc5 nm.at_ nm.name nl nl nl) ((HA.push (.row true 0 1 nm.cells)).push (.row true 0 1 (pc5 nm.at_ nm.name nl nl nl))) :=
  ⟨aB, Heap.get_push_self _ _, by simp, by simp; omega, by simp; omega, by simp; omega⟩
 obtain ⟨K1, e1, l1, -⟩ := l0.must hE (b1 40)
 obtain ⟨K2, e2, l2, -⟩ := l1.is hE (b1 41)
 rw [c_proc hE, callB, bodyOf]
 simp only [pc5, nl, Idn.cells, b1] at eA e1 e2
 simp [Try.f21, eA, e1, e2]
 refine ends_cut (ProcJ r lid L H nm.at_ nm.name ps s1) (ends_cond (fun hb => ?_) (fun hb => ?_)) ?_
 · have hi : isP L (mustS L (nameS L s) (b1 40)) (b1 41) = false := by simpa [b1] using hb
   unfold paramsP at hx1
   rw [if_neg (by simp [hi])] at hx1
   simp
   refine loop_wp (IdentsI r lid L H (HA.n + 1) nm.at_ nm.name ps s1 n) n ?_ ?_
   · exact ⟨Nat.le_refl n, [], true, _, nl, hx1, by simp, l2, repIdn.G_nil _ _, fun _ => by simp⟩
   rintro m t K hk ⟨hmn, acc, again, s4, v, hxl, g5, lF, gF, hlen⟩
   have ht : t.length = 58 := hk.1.trans (by simp [len_Bs])
   have hh := hk.all [0, 2, 4] (by decide +kernel)
   simp at hh
   obtain ⟨u0, u2, u4⟩ := hh
   have eb := bad_run hE lF.at_.rd
   cases m with
   | zero => cases hxl
   | succ m =>
   rw [identsL] at hxl
   by_cases hg : again = true ∧ s4.c = 0
   · rw [if_pos hg] at hxl
     obtain ⟨rfl, hc⟩ := hg
     obtain ⟨KA, eN, lA, kN⟩ := lF.name hE
     have gA := lF.fld gF kN
     obtain ⟨b0, rfl⟩ := repIdn.G_slice gF
     have hpl := lF.at_.rd.place
     obtain ⟨b', KB, eB, lB, gB, tB, rB⟩ := lA.grow repIdn tf_idn gA (by have := hlen hc; omega) (a := nameP L s4) (c := (nameP L s4).cells) rfl
     have lC := lB.put (pc5 nm.at_ nm.name (.slice b' (acc.length + 1) (acc.length + 1)) nl nl)
     have rC := lB.fld_put rB (.row true 0 1 (pc5 nm.at_ nm.name (.slice b' (acc.length + 1) (acc.length + 1)) nl nl))
     obtain ⟨KD, eD, kD, hD⟩ := take_run hE lC.at_.rd comma
     have lD := lC.step kD hD
     have rD := lC.fld rC kD
     have g1 := lF.get
     have g2 := lA.get
     have t2 := lA.lt
     simp only [repIdn, Idn.cells, pc5, nl, comma] at eB g1 g2 gB eD
     simp [ht, g5, u0, u2, u4, eb, hc]
     refine region_plan (by exact pl_proc0) ?_
     simp [ht, g5, u0, u2, u4, g1, g2, t2, eN, eB, gB, tB, eD]
     refine ⟨m, by omega, by omega, _, _, _, .slice b' (acc.length + 1) (acc.length + 1), hxl, by simp [ht, comma], lD, rD, fun e0 => ?_⟩
     have h1 := takeS_c L (nameS L s4) comma
     have h2 := (name_lt L s4).on (by rw [← h1.1]; exact e0)
     have h4 := hlen hc
     simp
     omega
   · rw [if_neg hg] at hxl
     cases hxl
     have out : ∀ t', t'.length = 58 → rd t' 0 = .pointer (some ⟨r, 0, none⟩) → rd t' 2 = .pointer (some ⟨H.n, 0, none⟩) → rd t' 4 = .pointer (some ⟨HA.n + 1, 0, none⟩) → ProcJ r lid L H nm.at_ nm.name ps s1 t' K :=
      fun t' h1 h2 h3 h4 => ⟨HA.n + 1, v, by omega, lF, gF, h1, h2, h3, h4⟩
     by_cases ha : again = true
     · have hc : ¬ s1.c = 0 := fun e => hg ⟨ha, e⟩
       subst ha
       simp [ht, g5, u0, u2, u4, eb, hc]
       exact out _ (by simp [ht]) (by simp [ht, u0]) (by simp [ht, u2]) (by simp [ht, u4])
     · have ha' : again = false := by simpa using ha
       subst ha'
       simp [ht, g5, u0, u2, u4]
       exact out _ (by simp [ht]) (by simp [ht, u0]) (by simp [ht, u2]) (by simp [ht, u4])
 · have hi : isP L (mustS L (nameS L s) (b1 40)) (b1 41) = true := by simpa [b1] using hb
   unfold paramsP at hx1
   rw [if_pos hi] at hx1
   cases hx1
   simp
   exact ⟨HA.n + 1, nl, by omega, l2, repIdn.G_nil _ _, by simp [len_Bs], by simp, by simp, by simp⟩
 · rintro t K ⟨sid, v, hsid, lJ, gJ, ht, u0, u2, u4⟩
   obtain ⟨K3, e3, l3, k3⟩ := lJ.must hE (b1 41)
   obtain ⟨K4, e4, l4, k4⟩ := l3.must hE tSemi
   have g4 := l3.fld (lJ.fld gJ k3) k4
   simp only [b1, tSemi] at e3 e4
   simp [ht, u0, u2, u4, e3, e4]
   refine loop_mid (VarsJ r lid L H sid nm.at_ nm.name ps vs s2) (VarsI r lid L H sid nm.at_ nm.name ps v K4.n vs s2 n) n ?_ ?_ ?_
   · exact ⟨Nat.le_refl n, [], _, nl, hx2, l4, repIdn.G_move (Same.refl (fun _ => False) _) (fun i hi hlt => ⟨⟨hi, hlt⟩, fun h => h⟩) g4, repIdn.G_nil _ _, by simp, Nat.le_refl _⟩
   · rintro m t' K' hk ⟨hmn, acc, s4, w, hxl, lF, gv, gF, hlen, hbd⟩
     have t4 := l4.lt
     have ow := lF.own
     have rl := lF.rl
     have ht' : t'.length = 58 := hk.1.trans (by simp [ht])
     have hh := hk.all [0, 2, 4] (by decide +kernel)
     simp [ht, u0, u2, u4] at hh
     obtain ⟨v0, v2, v4⟩ := hh
     cases m with
     | zero => cases hxl
     | succ m =>
     rw [varsL] at hxl
     by_cases hi : isP L s4 tVar = true
     · rw [if_pos hi] at hxl
       obtain ⟨K5, e5, l5, k5⟩ := lF.take_yes hE hi
       obtain ⟨KA, eN, lA, kN⟩ := l5.name hE
       have n5 := k5.n
       have nN := kN.n
       have gA : repIdn.G KA (fun i => K4.n ≤ i) w acc := repIdn.G_move (k5.trans kN) (fun i hi _ => ⟨hi, by omega⟩) gF
       have gvA : repIdn.G KA (fun i => sid < i ∧ i < K4.n) v ps := repIdn.G_move (k5.trans kN) (fun i hi _ => ⟨hi, by omega⟩) gv
       obtain ⟨b0, rfl⟩ := repIdn.G_slice gF
       obtain ⟨bv, rfl⟩ := repIdn.G_slice gv
       have hpl := lF.at_.rd.place
       obtain ⟨b', KB, eB, lB, gB, tB, rB, kB⟩ := lA.grow2 repIdn tf_idn (bd := K4.n) (by omega) (by omega) gA (by omega) (a := nameP L s4.on) (c := (nameP L s4.on).cells) rfl
       have nB := kB.n
       have gvB : repIdn.G KB (fun i => sid < i ∧ i < K4.n) _ ps := repIdn.G_move kB (fun i hi _ => ⟨hi, by omega⟩) gvA
       have lC := lB.put (pc5 nm.at_ nm.name (.slice bv ps.length ps.length) (.slice b' (acc.length + 1) (acc.length + 1)) nl)
       have rC := repIdn.G_set rB tB (S' := fun i => K4.n ≤ i) (fun j hj => ⟨hj, by omega⟩) (.row true 0 1 (pc5 nm.at_ nm.name (.slice bv ps.length ps.length) (.slice b' (acc.length + 1) (acc.length + 1)) nl))
       have rvC := repIdn.G_set gvB tB (S' := fun i => sid < i ∧ i < K4.n) (fun j hj => ⟨hj, by omega⟩) (.row true 0 1 (pc5 nm.at_ nm.name (.slice bv ps.length ps.length) (.slice b' (acc.length + 1) (acc.length + 1)) nl))
       obtain ⟨KD, eD, lD, kD⟩ := lC.must hE tSemi
       have nD := kD.n
       simp at nD
       have rD : repIdn.G KD (fun i => K4.n ≤ i) _ _ := repIdn.G_move kD (fun i hi _ => ⟨hi, by omega⟩) rC
       have rvD : repIdn.G KD (fun i => sid < i ∧ i < K4.n) _ _ := repIdn.G_move kD (fun i hi _ => ⟨hi, by omega⟩) rvC
       have g1 := l5.get
       have g2 := lA.get
       have t2 := lA.lt
       simp only [repIdn, Idn.cells, pc5, nl, tSemi, tVar] at e5 eB g1 g2 gB eD
       simp [ht', v0, v2, v4, e5]
       refine region_plan (by exact pl_proc1) ?_
       simp [ht', v0, v2, v4, g1, g2, t2, eN, eB, gB, tB, eD]
       refine ⟨m, by omega, by omega, _, _, .slice b' (acc.length + 1) (acc.length + 1), hxl, lD, rvD, rD, ?_, by omega⟩
       have := ((nameS_le L s4.on).1.le_trans (mustS_le L _ tSemi)).place
       simp [PS.on] at this ⊢
       omega
     · rw [if_neg hi] at hxl
       cases hxl
       have hi' : isP L s2 tVar = false := by simpa using hi
       obtain ⟨K5, e5, l5, k5⟩ := lF.take_no hE hi'
       simp only [tVar] at e5
       simp [ht', v0, v2, v4, e5]
       exact ⟨v, w, l5, lF.fld (repIdn.G_move (Same.refl (fun _ => False) _) (fun i hi _ => ⟨hi.1, fun h => h⟩) gv) k5, lF.fld (repIdn.G_move (Same.refl (fun _ => False) _) (fun i hi _ => ⟨by omega, fun h => h⟩) gF) k5, by simp [ht'], by simp [ht', v0], by simp [ht', v2], by simp [ht', v4]⟩
   · rintro t' K' hk ⟨v, w, lF, gv, gF, ht', v0, v2, v4⟩
     obtain ⟨K5, e5, l5, k5⟩ := lF.must hE tBegin
     obtain ⟨o, K6, e6, x, rfl, k6, d6, g6⟩ := ih _ _ _ _ hx3 (by omega) (by omega) _ l5.at_.rd
     have l6 := l5.step k6 d6
     obtain ⟨bb, rfl⟩ := repStm.G_slice g6
     obtain ⟨bv, rfl⟩ := repIdn.G_slice gv
     obtain ⟨bw, rfl⟩ := repIdn.G_slice gF
     have t5 := l5.lt
     have g6' : repStm.G K6 (fun i => sid < i) (.slice bb bd.length bd.length) bd := repStm.G_move (Same.refl (fun _ => False) _) (fun i hi _ => ⟨by omega, fun h => h⟩) g6
     have l7 := l6.put (pc5 nm.at_ nm.name (.slice bv ps.length ps.length) (.slice bw vs.length vs.length) (.slice bb bd.length bd.length))
     obtain ⟨K8, e8, l8, k8⟩ := l7.must hE tEnd
     obtain ⟨K9, e9, l9, k9⟩ := l8.must hE tSemi
     have mv : ∀ {α : Type} {ρ : Rep α} {v : Value} {q : List α}, ρ.G K6 (fun i => sid < i) v q → ρ.G K9 (fun i => sid < i) v q := fun g => l8.fld (l7.fld (l6.fld_put g _) k8) k9
     have f1 := mv (l5.fld (lF.fld gv k5) k6)
     have f2 := mv (l5.fld (lF.fld gF k5) k6)
     have f3 := mv g6'
     have gl6 := l6.get
     have tl6 := l6.lt
     have gl9 := l9.get
     have hz : K9.get H.n = .row true 0 1 (pc5 0 ByteArray.empty nl nl nl) := l9.at_.same.at (Heap.get_push_self _ _) (by simp) (by omega)
     have hz2 : H.n < K9.n := by have := l9.at_.n; simp at this; omega
     simp only [tBegin, tEnd, tSemi, pc5, nl] at e5 e6 gl6 e8 e9 gl9 hz
     simp [ht', v0, v2, v4, e5, e6, gl6, tl6, e8, e9, gl9, hz, hz2]
     exact ret_rep repPrc hr hl l9.at_ (a := ⟨nm.at_, nm.name, ps, vs, bd⟩) (repPrc.move (Same.refl (fun _ => False) _) (S := fun i => sid < i) (fun i hi _ => ⟨by omega, fun h => h⟩) _ _ ⟨_, _, _, rfl, f1, f2, f3⟩) _
end
structure Src where
 name : ByteArray
 decls : List Dcl
 procs : List Prc
 claims : List Itm
 body : List Stm
def sr5 (x : ByteArray) (v1 v2 v3 v4 : Value) : List Value := [.string x, v1, v2, v3, v4]
def RSrc (H : Heap) (S : Nat → Prop) (p : Src) (cs : List Value) : Prop := ∃ v1 v2 v3 v4, cs = sr5 p.name v1 v2 v3 v4 ∧ repDcl.G H S v1 p.decls ∧ repPrc.G H S v2 p.procs ∧ repItm.G H S v3 p.claims ∧ repStm.G H S v4 p.body
theorem RSrc.move {X S S' : Nat → Prop} {H H' : Heap} (k : Same X H H') (hs : ∀ i, S i → i < H.n → S' i ∧ ¬ X i) {p : Src} {cs : List Value} (h : RSrc H S p cs) : RSrc H' S' p cs := by
 obtain ⟨v1, v2, v3, v4, e, h1, h2, h3, h4⟩ := h
 exact ⟨v1, v2, v3, v4, e, repDcl.G_move k hs h1, repPrc.G_move k hs h2, repItm.G_move k hs h3, repStm.G_move k hs h4⟩
def tProgram : ByteArray := ⟨#[112, 114, 111, 103, 114, 97, 109]⟩
def tProcedure : ByteArray := ⟨#[112, 114, 111, 99, 101, 100, 117, 114, 101]⟩
def procsL (B : BrP) (L : List Tk) : Nat → List Prc → PS → Option (List Prc × PS)
 | 0, _, _ => none
 | n + 1, acc, s =>
  if isP L s tProcedure = true then (procP B L n s.on).bind fun q => procsL B L n (acc ++ [q.1]) q.2 else some (acc, s)
def claimsP (L : List Tk) (n : Nat) (s : PS) : Option (List Itm × PS) :=
 if isP L s tClaims = true then (itemsL L n [] true s.on).map fun q => (q.1, mustS L q.2 tSemi) else some ([], s)
def endS (L : List Tk) (s : PS) : PS := if (tok L s.p).kind = 5 then s else faultS L s 14
def srcP (B : BrP) (L : List Tk) (n : Nat) : Option (Src ⊕ (Int × Int)) :=
 (declsL L n [] (mustS L (nameS L (mustS L ⟨0, 0, 0⟩ tProgram)) tSemi)).bind fun d =>
  (procsL B L n [] d.2).bind fun p =>
   (claimsP L n p.2).bind fun c =>
    (stmtsL B L n 1 [] true (mustS L c.2 tBegin)).map fun b =>
     let s := endS L (mustS L (mustS L b.2 tEnd) (b1 46))
     if s.c = 0 then .inl ⟨(nameP L (mustS L ⟨0, 0, 0⟩ tProgram)).name, d.1, p.1, c.1, b.1⟩ else .inr (s.c, s.a)
def parseP (B : BrP) (src : List UInt8) (n : Nat) : Option (Src ⊕ (Int × Int)) :=
 (lexFrom src (src.length + 1) 0 []).bind fun q => match q with
  | .inr f => some (.inr f)
  | .inl L => srcP B L n
def RetP (H : Heap) (res : Src ⊕ (Int × Int)) (o : Out) (H' : Heap) : Prop :=
 Same (fun _ => False) H H' ∧ match res with
 | .inr (c, p) => o = .val (.tuple #[.agg ⟨sr5 ByteArray.empty nl nl nl nl⟩, .agg #[.int .i64 c, .int .i64 p]])
 | .inl S => ∃ cs, o = .val (.tuple #[.agg ⟨cs⟩, .agg #[.int .i64 0, .int .i64 0]]) ∧ RSrc H' (fun i => H.n ≤ i) S cs
theorem pl_parse0 : planOf Try.prog (drawN Try.f5 0) = some [none, (some (0, 1)), none, none] := by decide +kernel
theorem pl_parse1 : planOf Try.prog (drawN Try.f5 1) = some [(some (0, 2)), (some (0, 2)), none, none, none, none, none, none] := by decide +kernel
theorem pl_parse2 : planOf Try.prog (drawN Try.f5 2) = some [none, (some (0, 1)), (some (0, 1)), (some (0, 1)), (some (0, 1)), none, none] := by decide +kernel
structure PT (H : Heap) (r sid : Nat) (t : List Value) : Prop where
 len : t.length = 72
 t2 : rd t 2 = .pointer (some ⟨H.n, 0, none⟩)
 t3 : rd t 3 = .pointer (some ⟨H.n + 1, 0, none⟩)
 t6 : rd t 6 = .pointer (some ⟨r, 0, none⟩)
 t7 : rd t 7 = .pointer (some ⟨sid, 0, none⟩)
theorem PT.of {H : Heap} {r sid : Nat} {t t' : List Value} (p : PT H r sid t) (hl : t'.length = t.length) (h : AllRd t' t [2, 3, 6, 7]) : PT H r sid t' := by
 simp at h
 exact ⟨hl.trans p.len, h.1.trans p.t2, h.2.1.trans p.t3, h.2.2.1.trans p.t6, h.2.2.2.trans p.t7⟩
def ProcsI (B : BrP) (H Hp : Heap) (r lid : Nat) (L : List Tk) (sid : Nat) (name : ByteArray) (ds : List Dcl) (v : Value) (bd : Nat) (res : List Prc) (s' : PS) (n N m : Nat) (t : List Value) (K : Heap) : Prop :=
 m ≤ n ∧ ∃ acc s w, procsL B L m acc s = some (res, s') ∧ Loc Hp r lid L sid s (sr5 name v w nl nl) K ∧ repDcl.G K (fun i => sid < i ∧ i < bd) v ds ∧ repPrc.G K (fun i => bd ≤ i) w acc ∧ acc.length ≤ s.p ∧ bd ≤ K.n
def ProcsJ (H Hp : Heap) (r lid : Nat) (L : List Tk) (sid : Nat) (name : ByteArray) (ds : List Dcl) (ps : List Prc) (s' : PS) (t : List Value) (K : Heap) : Prop :=
 PT H r sid t ∧ ∃ v w, Loc Hp r lid L sid s' (sr5 name v w nl nl) K ∧ repDcl.G K (fun i => sid < i) v ds ∧ repPrc.G K (fun i => sid < i) w ps
def ClaimsJ (H Hp : Heap) (r lid : Nat) (L : List Tk) (sid : Nat) (name : ByteArray) (ds : List Dcl) (ps : List Prc) (cs : List Itm) (s' : PS) (t : List Value) (K : Heap) : Prop :=
 PT H r sid t ∧ ∃ v w x, Loc Hp r lid L sid s' (sr5 name v w x nl) K ∧ repDcl.G K (fun i => sid < i) v ds ∧ repPrc.G K (fun i => sid < i) w ps ∧ repItm.G K (fun i => sid < i) x cs
def EndJ (H Hp : Heap) (r lid : Nat) (L : List Tk) (sid : Nat) (S : Src) (s' : PS) (t : List Value) (K : Heap) : Prop :=
 PT H r sid t ∧ ∃ sc, Loc Hp r lid L sid s' sc K ∧ RSrc K (fun i => sid < i) S sc
theorem RSrc.slices {H : Heap} {S : Nat → Prop} {p : Src} {cs : List Value} (h : RSrc H S p cs) : ∃ x a1 a2 a3 b1 b2 b3 c1 c2 c3 d1 d2 d3, cs = sr5 x (.slice a1 a2 a3) (.slice b1 b2 b3) (.slice c1 c2 c3) (.slice d1 d2 d3) := by
 obtain ⟨v1, v2, v3, v4, rfl, h1, h2, h3, h4⟩ := h
 obtain ⟨b1, rfl⟩ := repDcl.G_slice h1
 obtain ⟨b2, rfl⟩ := repPrc.G_slice h2
 obtain ⟨b3, rfl⟩ := repItm.G_slice h3
 obtain ⟨b4, rfl⟩ := repStm.G_slice h4
 exact ⟨_, _, _, _, _, _, _, _, _, _, _, _, _, rfl⟩
theorem RPrc.slices {H : Heap} {S : Nat → Prop} {p : Prc} {cs : List Value} (h : RPrc H S p cs) : ∃ a x a1 a2 a3 b1 b2 b3 c1 c2 c3, cs = pc5 a x (.slice a1 a2 a3) (.slice b1 b2 b3) (.slice c1 c2 c3) := by
 obtain ⟨v1, v2, v3, rfl, h1, h2, h3⟩ := h
 obtain ⟨b1, rfl⟩ := repIdn.G_slice h1
 obtain ⟨b2, rfl⟩ := repIdn.G_slice h2
 obtain ⟨b3, rfl⟩ := repStm.G_slice h3
 exact ⟨_, _, _, _, _, _, _, _, _, _, _, rfl⟩
section
variable {E : Hooks} (hE : Plain E) {B : BrP}
include hE
def AllOK (E : Hooks) (H : Heap) (v : Value) (src : List UInt8) : Prop := ∀ q, lexFrom src (src.length + 1) 0 [] = some q → ∀ X, Same (fun _ => False) H X → Gives ((run Try.prog E).call 16 [v] X) (RetL X q)
theorem AllOK.bs {H : Heap} {sid off cap : Nat} {src : List UInt8} (hb : BS H sid off cap src) (hsm : src.length ≤ 4096) : AllOK E H (.slice (some ⟨sid, off, none⟩) src.length cap) src :=
 fun q hq X k => all_walk hE (hb.same k (fun h => h)) hsm hq
theorem AllOK.nil (H : Heap) : AllOK E H (.slice none 0 0) [] := by
 intro q hq X kX
 simp [lexFrom] at hq
 subst hq
 rw [c_All hE, callB, bodyOf]
 simp [Try.f16]
 refine loop_wp (fun m t K => rd t 5 = .int .i64 0 ∧ rd t 4 = .slice (some ⟨X.n + 1, 0, none⟩) 0 0 ∧ K = (X.push (.row true 0 1 [.int .i64 0, .int .i64 0])).push (.row true 0 4 [])) 0 ?_ ?_
 · exact ⟨by simp, by simp, rfl⟩
 rintro m t K hk ⟨g5, g4, rfl⟩
 have ht : t.length = 193 := hk.1.trans (by simp [len_Bs])
 have hh := hk.all [0, 3] (by decide +kernel)
 simp at hh
 obtain ⟨t0, t3⟩ := hh
 obtain ⟨H2, e1, e2, e3, e4⟩ := app_one tf_tok (H := ((X.push (.row true 0 1 [.int .i64 0, .int .i64 0])).push (.row true 0 4 [])).push (.row true 0 4 [.int .i64 5, .int .i64 0, .int .i64 0, .string ByteArray.empty])) (id := X.n + 1) (tl := 0) (n := 0) (xid := X.n + 1 + 1) (cs := []) (c := [.int .i64 5, .int .i64 0, .int .i64 0, .string ByteArray.empty]) (xt := 0) (xe := 4) (xo := true) (xc := 1)
  (by rw [Heap.get_push, if_neg (by simp)]; exact Heap.get_push_self _ _) rfl (by omega) rfl (by exact Heap.get_push_self _ _) (by omega)
 simp only [Heap.n_push] at e1 e2 e3
 have g1 : H2.get X.n = .row true 0 1 [.int .i64 0, .int .i64 0] := e4.at (by rw [Heap.get_push, if_neg (by simp), Heap.get_push, if_neg (by simp), Heap.get_push_self]) (by simp) (by omega)
 have kp : Same (fun _ => False) X (((X.push (.row true 0 1 [.int .i64 0, .int .i64 0])).push (.row true 0 4 [])).push (.row true 0 4 [.int .i64 5, .int .i64 0, .int .i64 0, .string ByteArray.empty])) := ((Same.push _ _ _).then_push _).then_push _
 simp [ht, g5, g4, t0, t3, e1, g1, show X.n < H2.n by omega]
 refine ⟨(kp.then e4 (fun i hi => .inr (by omega))).then_set (by omega) (.inr (Nat.le_refl _)) _, X.n + 1 + 1 + 1, by omega, rfl, 1, by omega, ?_⟩
 rw [Heap.get_set _ _ _ (by omega), if_neg (by omega)]
 exact e2
theorem parse_walk0 (hB : ∀ L, BLt B L) (hBr : ∀ r lid L, BranOK E B r lid L) {H : Heap} {v : Value} {src : List UInt8} (hv : isTuple v = false) (hall : AllOK E H v src) (hsm : src.length ≤ 4096) {n : Nat} {res : Src ⊕ (Int × Int)} (hx : parseP B src n = some res) :
  Gives ((run Try.prog E).call 5 [v] H) (RetP H res) := by
 unfold parseP at hx
 simp only [Option.bind_eq_some_iff] at hx
 obtain ⟨q, hlex, hx⟩ := hx
 obtain ⟨o, HA, eA, kA, hq⟩ := hall q hlex ((H.push (.row true 0 1 (sr5 ByteArray.empty nl nl nl nl))).push (.row true 0 1 [.int .i64 0, .int .i64 0])) ((Same.push _ _ _).then_push _)
 have nA := kA.n
 simp at nA
 have gA0 : HA.get H.n = .row true 0 1 (sr5 ByteArray.empty nl nl nl nl) := kA.at (by rw [Heap.get_push, if_neg (by simp), Heap.get_push_self]) (by simp) (fun h => h)
 have gA1 : HA.get (H.n + 1) = .row true 0 1 [.int .i64 0, .int .i64 0] := kA.at (Heap.get_push_self _ _) (by simp) (fun h => h)
 have kH : Same (fun _ => False) H HA := ((Same.push _ _ _).then_push _).trans kA
 have tA0 : H.n < HA.n := by omega
 have tA1 : H.n + 1 < HA.n := by omega
 rw [c_Parse hE, callB, bodyOf]
 simp only [sr5, nl] at gA0 eA
 match q, hlex, hx, hq with
 | .inr (c, p), hlex, hx, hq =>
  cases hx
  simp only at hq
  subst hq
  have hc := lexFrom_bad hlex
  simp [Try.f5, eA, hc]
  refine region_plan (by exact pl_parse0) ?_
  simp [gA0, gA1, tA0, tA1]
  refine ⟨(kH.then_push _).then_set (by simp; omega) (.inr (by omega)) _ |>.then_set (by simp; omega) (.inr (by omega)) _, ?_⟩
  simp [sr5]
 | .inl L, hlex, hx, hq =>
  obtain ⟨id, hid, rfl, tl, htl, hrow⟩ := hq
  have hLl := lexFrom_len hlex
  simp at hLl
  simp only [srcP, Option.bind_eq_some_iff, Option.map_eq_some_iff] at hx
  obtain ⟨⟨ds, s1⟩, hx1, ⟨ps, s2⟩, hx2, ⟨cl, s3⟩, hx3, ⟨bd, s4⟩, hx4, hx5⟩ := hx
  have hrd : RD ((HA.push (.row true 0 1 [.int .i64 0, .int .i64 0])).push (.row true 0 1 [.slice (some ⟨id, 0, none⟩) L.length L.length, .int .i64 0, .int .i64 0, .int .i64 0])) (HA.n + 1) id L ⟨0, 0, 0⟩ := by
   have hidn := Heap.lt_of_get hrow (by simp)
   exact ⟨Heap.get_push_self _ _, ⟨tl, by rw [Heap.get_push, if_neg (by simp; omega), Heap.get_push, if_neg (by omega)]; exact hrow⟩, by omega, Nat.zero_le _⟩
  have hidn := Heap.lt_of_get hrow (by simp)
  generalize hHp : (HA.push (.row true 0 1 [.int .i64 0, .int .i64 0])).push (.row true 0 1 [.slice (some ⟨id, 0, none⟩) L.length L.length, .int .i64 0, .int .i64 0, .int .i64 0]) = Hp at *
  have nHp : Hp.n = HA.n + 2 := by rw [← hHp]; rfl
  have kHp : Same (fun _ => False) H Hp := by rw [← hHp]; exact (kH.then_push _).then_push _
  have gp0 : Hp.get H.n = .row true 0 1 [.string ByteArray.empty, .slice none 0 0, .slice none 0 0, .slice none 0 0, .slice none 0 0] := by rw [← hHp, Heap.get_push, if_neg (by simp; omega), Heap.get_push, if_neg (by omega)]; exact gA0
  have gp1 : Hp.get (H.n + 1) = .row true 0 1 [.int .i64 0, .int .i64 0] := by rw [← hHp, Heap.get_push, if_neg (by simp; omega), Heap.get_push, if_neg (by omega)]; exact gA1
  have aP : At Hp (HA.n + 1) id L ⟨0, 0, 0⟩ Hp := ⟨Same.refl _ _, hrd⟩
  obtain ⟨K1, e1, k1, d1⟩ := must_run hE aP.rd tProgram
  have a1 := aP.go k1 d1
  obtain ⟨K2, e2, k2, d2⟩ := name_run hE a1.rd
  have a2 := a1.go k2 d2
  have n2 := a2.n
  generalize hnm : (nameP L (mustS L ⟨0, 0, 0⟩ tProgram)).name = nm at *
  have l2 : Loc Hp (HA.n + 1) id L K2.n (nameS L (mustS L ⟨0, 0, 0⟩ tProgram)) (sr5 nm nl nl nl nl) (K2.push (.row true 0 1 (sr5 nm nl nl nl nl))) :=
   ⟨a2.push _, Heap.get_push_self _ _, by simp, n2, by omega, by omega⟩
  obtain ⟨K3, e3, l3, k3⟩ := l2.must hE tSemi
  obtain ⟨o4, K4, e4, v4, rfl, k4, d4, g4⟩ := decls_run hE hx1 l3.at_.rd
  have l4 := l3.step k4 d4
  obtain ⟨b4, rfl⟩ := repDcl.G_slice g4
  have t3 := l3.lt
  have g4' : repDcl.G K4 (fun i => K2.n < i) (.slice b4 ds.length ds.length) ds := repDcl.G_move (Same.refl (fun _ => False) _) (fun i hi _ => ⟨by omega, fun h => h⟩) g4
  have l5 := l4.put (sr5 nm (.slice b4 ds.length ds.length) nl nl nl)
  have g5 := l4.fld_put g4' (.row true 0 1 (sr5 nm (.slice b4 ds.length ds.length) nl nl nl))
  have gl4 := l4.get
  have tl4 := l4.lt
  have l5x := l5
  simp only [Idn.cells, hnm] at e2
  simp only [tProgram, tSemi, sr5, nl] at e1 e2 e3 e4 gl4 l5x
  simp [Try.f5, eA, hHp, e1, e2, e3, e4, gl4, tl4]
  refine loop_mid (ProcsJ H Hp (HA.n + 1) id L K2.n nm ds ps s2) (ProcsI B H Hp (HA.n + 1) id L K2.n nm ds (.slice b4 ds.length ds.length) K4.n ps s2 n n) n ?_ ?_ ?_
  · exact ⟨Nat.le_refl n, [], _, nl, hx2, l5, repDcl.G_move (Same.refl (fun _ => False) _) (fun i hi hlt => ⟨⟨hi, hlt⟩, fun h => h⟩) g5, repPrc.G_nil _ _, by simp, Nat.le_refl _⟩
  · rintro m t K hk ⟨hmn, acc, s6, w, hxl, lF, gv, gF, hlen, hbd⟩
    have ht : t.length = 72 := hk.1.trans (by simp [len_Bs])
    have hh := hk.all [2, 3, 6, 7] (by decide +kernel)
    simp at hh
    obtain ⟨u2, u3, u6, u7⟩ := hh
    have ow := lF.own
    have rl := lF.rl
    cases m with
    | zero => cases hxl
    | succ m =>
    rw [procsL] at hxl
    by_cases hi : isP L s6 tProcedure = true
    · rw [if_pos hi] at hxl
      simp only [Option.bind_eq_some_iff] at hxl
      obtain ⟨⟨pr, s7⟩, hxa, hxb⟩ := hxl
      obtain ⟨K5, e5, l5', k5⟩ := lF.take_yes hE hi
      obtain ⟨oC, KC, eC, cs, rfl, kC, dC, rC⟩ := proc_run hE (st_all hE (hB L) (hBr _ _ _) m).2.1 hxa l5'.at_.rd
      have lC := l5'.step kC dC
      have n5 := k5.n
      have nC := kC.n
      have hlt := procP_lt (hB L) hxa
      have gA : repPrc.G KC (fun i => K4.n ≤ i) w acc := repPrc.G_move (k5.trans kC) (fun i hi _ => ⟨hi, by omega⟩) gF
      have gvA : repDcl.G KC (fun i => K2.n < i ∧ i < K4.n) (.slice b4 ds.length ds.length) ds := repDcl.G_move (k5.trans kC) (fun i hi _ => ⟨hi, by omega⟩) gv
      obtain ⟨b0, rfl⟩ := repPrc.G_slice gF
      have hpl := lF.at_.rd.place
      have hwl : ∀ i, vid (.slice b0 acc.length acc.length) i → i < K.n := fun i hi => (repPrc.G_lt gF hi).1
      have rC2 : RPrc KC (fun i => K5.n ≤ i) pr cs := rC
      obtain ⟨p1, p2, p3, p4, p5, p6, p7, p8, p9, p10, p11, rfl⟩ := rC2.slices
      obtain ⟨b', KB, eB, lB, gB, tB, rB, kB⟩ := lC.grow2 repPrc tf_prc (bd := K4.n) (by omega) (by omega) gA (by omega) (a := pr) (c := pc5 p1 p2 (.slice p3 p4 p5) (.slice p6 p7 p8) (.slice p9 p10 p11)) (repPrc.move (Same.refl (fun _ => False) _) (fun i hi _ => ⟨⟨by omega, fun e => by have := hwl _ e; omega⟩, fun h => h⟩) _ _ rC)
      have nB := kB.n
      have gvB : repDcl.G KB (fun i => K2.n < i ∧ i < K4.n) _ ds := repDcl.G_move kB (fun i hi _ => ⟨hi, by omega⟩) gvA
      have lD := lB.put (sr5 nm (.slice b4 ds.length ds.length) (.slice b' (acc.length + 1) (acc.length + 1)) nl nl)
      have rD := repPrc.G_set rB tB (S' := fun i => K4.n ≤ i) (fun j hj => ⟨hj, by omega⟩) (.row true 0 1 (sr5 nm (.slice b4 ds.length ds.length) (.slice b' (acc.length + 1) (acc.length + 1)) nl nl))
      have rvD := repDcl.G_set gvB tB (S' := fun i => K2.n < i ∧ i < K4.n) (fun j hj => ⟨hj, by omega⟩) (.row true 0 1 (sr5 nm (.slice b4 ds.length ds.length) (.slice b' (acc.length + 1) (acc.length + 1)) nl nl))
      have g1 := l5'.get
      have g2 := lC.get
      have t2 := lC.lt
      simp only [repPrc, pc5, sr5, nl, tProcedure] at e5 eC eB g1 g2 gB
      simp [ht, u2, u3, u6, u7, e5]
      refine region_plan (by exact pl_parse1) ?_
      simp [ht, u2, u3, u6, u7, g1, g2, t2, eC, eB, gB, tB]
      refine ⟨m, by omega, by omega, _, _, .slice b' (acc.length + 1) (acc.length + 1), hxb, lD, rvD, rD, ?_, by simp; omega⟩
      have := hlt.le.place
      simp [PS.on] at this ⊢
      omega
    · rw [if_neg hi] at hxl
      cases hxl
      have hi' : isP L s2 tProcedure = false := by simpa using hi
      obtain ⟨K5, e5, l5', k5⟩ := lF.take_no hE hi'
      simp only [tProcedure] at e5
      simp [ht, u2, u3, u6, u7, e5]
      exact ⟨⟨by simp [ht], by simp [ht, u2], by simp [ht, u3], by simp [ht, u6], by simp [ht, u7]⟩, _, w, l5', lF.fld (repDcl.G_move (Same.refl (fun _ => False) _) (fun i hi _ => ⟨hi.1, fun h => h⟩) gv) k5, lF.fld (repPrc.G_move (Same.refl (fun _ => False) _) (fun i hi _ => ⟨by omega, fun h => h⟩) gF) k5⟩
  · rintro t K hk ⟨⟨ht, u2, u3, u6, u7⟩, v, w, lF, gv, gw⟩
    obtain ⟨bv, rfl⟩ := repDcl.G_slice gv
    obtain ⟨bw, rfl⟩ := repPrc.G_slice gw
    obtain ⟨K5, e5, k5, d5⟩ := take_run hE lF.at_.rd tClaims
    have l5' := lF.step k5 d5
    have gv5 := lF.fld gv k5
    have gw5 := lF.fld gw k5
    simp only [tClaims] at e5
    simp [ht, u2, u3, u6, u7, e5]
    unfold claimsP at hx3
    refine ends_cut (ClaimsJ H Hp (HA.n + 1) id L K2.n nm ds ps cl s3) (ends_cond (fun hb => ?_) (fun hb => ?_)) ?_
    · have hi : isP L s2 tClaims = true := hb
      rw [if_pos hi] at hx3
      simp only [Option.map_eq_some_iff] at hx3
      obtain ⟨⟨it, s5⟩, hx31, hx32⟩ := hx3
      cases hx32
      rw [takeS_yes hi] at l5'
      obtain ⟨K6, bi, im, e6, l6, i6, k6⟩ := l5'.items hE hx31
      have l7 := l6.put (sr5 nm (.slice bv ds.length ds.length) (.slice bw ps.length ps.length) (.slice bi im im) nl)
      obtain ⟨K8, e8, l8, k8⟩ := l7.must hE tSemi
      have mv : ∀ {α : Type} {ρ : Rep α} {v : Value} {q : List α}, ρ.G K6 (fun i => K2.n < i) v q → ρ.G K8 (fun i => K2.n < i) v q := fun g => l7.fld (l6.fld_put g _) k8
      have f1 := mv (l5'.fld gv5 k6)
      have f2 := mv (l5'.fld gw5 k6)
      have f3 := mv i6
      have g6 := l6.get
      have t6 := l6.lt
      simp only [tSemi, sr5, nl] at g6 e8
      simp [ht, u2, u3, u6, u7, e6, g6, t6, e8]
      exact ⟨⟨by simp [ht], by simp [ht, u2], by simp [ht, u3], by simp [ht, u6], by simp [ht, u7]⟩, _, _, _, l8, f1, f2, f3⟩
    · have hi : isP L s2 tClaims = false := hb
      rw [if_neg (by simp [hi])] at hx3
      cases hx3
      rw [takeS_no hi] at l5'
      simp [ht, u2, u3, u6, u7]
      exact ⟨⟨by simp [ht], by simp [ht, u2], by simp [ht, u3], by simp [ht, u6], by simp [ht, u7]⟩, _, _, nl, l5', gv5, gw5, repItm.G_nil _ _⟩
    · rintro t K ⟨⟨ht, u2, u3, u6, u7⟩, v, w, x, lF, gv, gw, gx⟩
      obtain ⟨bv, rfl⟩ := repDcl.G_slice gv
      obtain ⟨bw, rfl⟩ := repPrc.G_slice gw
      obtain ⟨bx, rfl⟩ := repItm.G_slice gx
      obtain ⟨K5, e5, l5', k5⟩ := lF.must hE tBegin
      obtain ⟨o, K6, e6, y, rfl, k6, d6, g6⟩ := (st_all hE (hB L) (hBr _ _ _) n).2.1 _ _ _ _ hx4 (by omega) (by omega) _ l5'.at_.rd
      have l6 := l5'.step k6 d6
      obtain ⟨bb, rfl⟩ := repStm.G_slice g6
      have t5 := l5'.lt
      have g6' : repStm.G K6 (fun i => K2.n < i) (.slice bb bd.length bd.length) bd := repStm.G_move (Same.refl (fun _ => False) _) (fun i hi _ => ⟨by omega, fun h => h⟩) g6
      have l7 := l6.put (sr5 nm (.slice bv ds.length ds.length) (.slice bw ps.length ps.length) (.slice bx cl.length cl.length) (.slice bb bd.length bd.length))
      obtain ⟨K8, e8, l8, k8⟩ := l7.must hE tEnd
      obtain ⟨K9, e9, l9, k9⟩ := l8.must hE (b1 46)
      have mv : ∀ {α : Type} {ρ : Rep α} {v : Value} {q : List α}, ρ.G K6 (fun i => K2.n < i) v q → ρ.G K9 (fun i => K2.n < i) v q := fun g => l8.fld (l7.fld (l6.fld_put g _) k8) k9
      have hS : RSrc K9 (fun i => K2.n < i) ⟨nm, ds, ps, cl, bd⟩ (sr5 nm (.slice bv ds.length ds.length) (.slice bw ps.length ps.length) (.slice bx cl.length cl.length) (.slice bb bd.length bd.length)) :=
       ⟨_, _, _, _, rfl, mv (l5'.fld (lF.fld gv k5) k6), mv (l5'.fld (lF.fld gw k5) k6), mv (l5'.fld (lF.fld gx k5) k6), mv g6'⟩
      obtain ⟨KT, eT, kT⟩ := now_run hE l9.at_.rd
      have lT := l9.step (Same.none kT) (l9.at_.rd.same kT)
      have hST := hS.move (Same.none kT : Same (· = HA.n + 1) K9 KT) (S' := fun i => K2.n < i) (fun i hi _ => ⟨hi, by omega⟩)
      have gl6 := l6.get
      have tl6 := l6.lt
      generalize hs9 : mustS L (mustS L s4 tEnd) (b1 46) = s9 at *
      generalize htk : tok L s9.p = tk at *
      simp only [tBegin, tEnd, b1, sr5, nl, Tk.v, Tk.cells] at e5 e6 gl6 e8 e9 eT
      simp [ht, u2, u3, u6, u7, e5, e6, gl6, tl6, e8, e9, eT]
      refine ends_cut (EndJ H Hp (HA.n + 1) id L K2.n ⟨nm, ds, ps, cl, bd⟩ (endS L s9)) (ends_cond (fun hb => ?_) (fun hb => ?_)) ?_
      · have hk5 : ¬ tk.kind = 5 := by simpa using hb
        have he : endS L s9 = faultS L s9 14 := by unfold endS; rw [htk, if_neg hk5]
        rw [he]
        obtain ⟨KF, eF, lF2, kF⟩ := lT.fault hE 14
        simp [ht, u2, u3, u6, u7, eF]
        exact ⟨⟨by simp [ht], by simp [ht, u2], by simp [ht, u3], by simp [ht, u6], by simp [ht, u7]⟩, _, lF2, hST.move kF (fun i hi _ => ⟨hi, by omega⟩)⟩
      · have hk5 : tk.kind = 5 := by simpa using hb
        have he : endS L s9 = s9 := by unfold endS; rw [htk, if_pos hk5]
        rw [he]
        simp [ht, u2, u3, u6, u7]
        exact ⟨⟨by simp [ht], by simp [ht, u2], by simp [ht, u3], by simp [ht, u6], by simp [ht, u7]⟩, _, lT, hST⟩
      · rintro t K ⟨⟨ht, u2, u3, u6, u7⟩, sc, lF, hS⟩
        have eb := bad_run hE lF.at_.rd
        have hobj := lF.at_.rd.obj
        have gk0 := lF.at_.same.at gp0 (by simp) (by omega)
        have gk1 := lF.at_.same.at gp1 (by simp) (by omega)
        have gl := lF.get
        have tl := lF.lt
        have kK : Same (fun _ => False) H K := kHp.then lF.at_.same (fun i hi => .inr (by omega))
        have nK := lF.at_.n
        have q0 : H.n < K.n := by omega
        have q1 : H.n + 1 < K.n := by omega
        simp only at hx5
        subst hx5
        by_cases hc : (endS L s9).c = 0
        · simp only [hc, if_pos]
          obtain ⟨y, a1, a2, a3, b1', b2, b3, c1, c2, c3, d1', d2', d3, rfl⟩ := hS.slices
          simp only [sr5] at gl hS
          simp [ht, u2, u3, u6, u7, eb, hc, gl, gk0, gk1, q0, q1]
          refine ⟨(kK.then_set q0 (.inr (by omega)) _).then_set (by simp; omega) (.inr (by omega)) _, _, rfl, ?_⟩
          refine RSrc.move (X := fun i => i = H.n ∨ i = H.n + 1) ?_ (S := fun i => K2.n < i) (fun i hi _ => ⟨by omega, by omega⟩) hS
          exact (Same.set (X := fun i => i = H.n ∨ i = H.n + 1) K q0 (.inl rfl) _).trans (Same.set (X := fun i => i = H.n ∨ i = H.n + 1) _ (by simpa using q1) (.inr rfl) _)
        · simp only [hc, if_neg]
          simp [ht, u2, u3, u6, u7, eb, hc]
          refine region_plan (by exact pl_parse2) ?_
          simp [ht, u2, u3, u6, u7, hobj, gk0, gk1, q0, q1, show ¬ HA.n + 1 = H.n by omega, show ¬ HA.n + 1 = H.n + 1 by omega]
          refine ⟨(kK.then_set q0 (.inr (by omega)) _).then_set (by simp; omega) (.inr (by omega)) _, ?_⟩
          simp [sr5]
end
theorem no_bran : planOf Try.prog (drawN Try.f71 0) = none := by decide +kernel
theorem at_bran : ∃ os, lateAt (drawN Try.f71 0) = some ⟨8, 6, 116, os⟩ ∧ os.op = .store 116 (.tmp 6) (.tmp 16) := ⟨((drawN Try.f71 0)[9]?).getD ⟨none, .move (.tmp 0), 0, "", #[], none⟩, by kernel_rfl, by kernel_rfl⟩
theorem pl_bran : planOf Try.prog (lateA (drawN Try.f71 0)) = some [(some (0, 1)), (some (0, 1)), (some (0, 1)), (some (0, 1)), none, none, none, none, (some (0, 1))] := by decide +kernel
theorem z_bran : zeroT Try.prog 116 = some (.agg ⟨[.int .i64 0, .string ByteArray.empty, nl, nl]⟩) := by kernel_rfl
theorem v_bran (cs : List Value) : varObj Try.prog 116 cs = .row true 0 1 cs := by unfold varObj; simp
def bc4 (a : Int) (x : ByteArray) (v w : Value) : List Value := [.int .i64 a, .string x, v, w]
section
variable {E : Hooks} (hE : Plain E) {r lid : Nat} {L : List Tk}
include hE
theorem bran_ok : BranOK E branP r lid L := by
 intro n lv s b s' hx h0 h24 H h
 have hr := h.lt
 have hl := h.lid_lt
 have hsm := h.small
 have aP : At (H.push (.row true 0 1 (bc4 0 ByteArray.empty nl nl))) r lid L s (H.push (.row true 0 1 (bc4 0 ByteArray.empty nl nl))) := ⟨Same.refl _ _, h.same (Same.push _ _ _)⟩
 obtain ⟨HA, eA, kA, hA⟩ := name_run hE aP.rd
 have aA := aP.go kA hA
 have nA := kA.n
 simp at nA
 unfold branP at hx
 simp only [Option.bind_eq_some_iff] at hx
 obtain ⟨⟨a1, s1⟩, hx1, hx2⟩ := hx
 have aB := (aA.push (.row true 0 1 (nameP L s).cells)).push .dead
 obtain ⟨o, HC, eC, v, rfl, kC, hC, gC⟩ := args_run hE h0 h24 hx1 aB.rd
 have aC := aB.go kC hC
 have nC := kC.n
 simp at nC
 obtain ⟨b0, rfl⟩ := repEx.G_slice gC
 have g1 : HC.get (HA.n + 1) = .dead := by
  rw [kC.get _ (by simp) (by omega)]
  exact Heap.get_push_self (HA.push (.row true 0 1 (nameP L s).cells)) .dead
 have g2 : HC.get HA.n = .row true 0 1 (nameP L s).cells := kC.at (by simp) (by simp) (by omega)
 have lC : Loc (H.push (.row true 0 1 (bc4 0 ByteArray.empty nl nl))) r lid L (HA.n + 1) s1 (bc4 (nameP L s).at_ (nameP L s).name (.slice b0 a1.length a1.length) nl) (HC.set (HA.n + 1) (.row true 0 1 (bc4 (nameP L s).at_ (nameP L s).name (.slice b0 a1.length a1.length) nl))) :=
  ⟨aC.set (by simp; omega) (by simp; omega) (by simp; omega) (by omega) _, Heap.get_set_self _ _ (by omega), by show HA.n + 1 < HC.n; omega, by simp; omega, by simp; omega, by simp; omega⟩
 have gX : repEx.G (HC.set (HA.n + 1) (.row true 0 1 (bc4 (nameP L s).at_ (nameP L s).name (.slice b0 a1.length a1.length) nl))) (fun i => HA.n + 1 < i) (.slice b0 a1.length a1.length) a1 :=
  repEx.G_set gC (by omega) (fun j hj => by simp at hj; exact ⟨by omega, by omega⟩) _
 obtain ⟨os, ea, eo⟩ := at_bran
 rw [c_branch hE, callB, bodyOf]
 simp only [Idn.cells, bc4] at eA eC g2 lC gX
 have q1 : HA.n + 1 < HC.n := by omega
 simp [Try.f71, eA]
 refine region_late (by exact no_bran) (by exact ea) (by exact pl_bran) (by exact z_bran) ?_
 simp [lateA, blank, eC, g2]
 rw [exLast_go q1 g1]
 simp [eo, q1, v_bran]
 have gK := lC.get
 have tK := lC.lt
 have t0 : H.n < HC.n := by omega
 by_cases c1 : isP L s1 tClaims = true
 · rw [if_pos c1] at hx2
   simp only [Option.map_eq_some_iff] at hx2
   obtain ⟨⟨l2, s2⟩, hx3, hx4⟩ := hx2
   cases hx4
   obtain ⟨HD, eD, lD, kD⟩ := lC.take_yes hE c1
   obtain ⟨HE, b, m, eE, lE, gE, kE⟩ := lD.items hE hx3
   have gKE := lE.get
   have tKE := lE.lt
   have g0 : HE.get H.n = .row true 0 1 (bc4 0 ByteArray.empty nl nl) := lE.at_.same.at (Heap.get_push_self _ _) (by simp) (by omega)
   have t0E := Heap.lt_of_get g0 (by simp)
   simp only [bc4] at g0
   simp only [tClaims] at eD
   obtain ⟨b3, e3⟩ := repItm.G_slice gE
   cases e3
   simp [eD, eE, gKE, tKE, g0, t0E, show ¬ H.n = HA.n + 1 by omega, show ¬ HA.n + 1 = H.n by omega]
   have lF := lE.put (bc4 (nameP L s).at_ (nameP L s).name (.slice b0 a1.length a1.length) (.slice b l2.length l2.length))
   refine ret_rep repBra hr hl lF.at_ ?_ _
   refine ⟨_, _, rfl, repEx.G_move (Same.refl (fun _ => False) _) (fun i hi _ => ⟨by omega, fun h => h⟩) (lE.fld_put (lD.fld (lC.fld gX kD) kE) _), repItm.G_move (Same.refl (fun _ => False) _) (fun i hi _ => ⟨by omega, fun h => h⟩) (lE.fld_put gE _)⟩
 · rw [if_neg c1] at hx2
   cases hx2
   have c1' : isP L s1 tClaims = false := by simpa using c1
   obtain ⟨HD, eD, lD, kD⟩ := lC.take_no hE c1'
   have gKD := lD.get
   have tKD := lD.lt
   have g0 : HD.get H.n = .row true 0 1 (bc4 0 ByteArray.empty nl nl) := lD.at_.same.at (Heap.get_push_self _ _) (by simp) (by omega)
   have t0D := Heap.lt_of_get g0 (by simp)
   simp only [bc4] at g0
   simp only [tClaims] at eD
   simp [eD, gKD, tKD, g0, t0D, show ¬ H.n = HA.n + 1 by omega, show ¬ HA.n + 1 = H.n by omega]
   refine ret_rep repBra hr hl lD.at_ ?_ _
   exact ⟨_, _, rfl, repEx.G_move (Same.refl (fun _ => False) _) (fun i hi _ => ⟨by omega, fun h => h⟩) (lC.fld gX kD), repItm.G_nil _ _⟩
end
end Go.Vm.Parse
namespace Go.Vm.Parse
open Go Go.Proofs
section
variable {E : Hooks} (hE : Plain E)
include hE
theorem parse_any {H : Heap} {v : Value} {src : List UInt8} (hv : isTuple v = false) (hall : AllOK E H v src) (hsm : src.length ≤ 4096) {n : Nat} {res : Src ⊕ (Int × Int)} (hx : parseP branP src n = some res) :
  Gives ((run Try.prog E).call 5 [v] H) (RetP H res) :=
 parse_walk0 hE (fun L n lv s b s' h => branP_lt h) (fun r lid L => bran_ok hE) hv hall hsm hx
end
end Go.Vm.Parse
namespace Go.Vm.Ring
open Go Go.Proofs Go.Vm.Parse
abbrev KT := Int × ByteArray
def kt (t : Tk) : KT := (t.kind, t.text)
def Ly (l : List UInt8) (a : Nat) (K : List KT) : Prop := ∃ toks, Lx l a toks ∧ toks.map kt = K
theorem Ly.nil (a : Nat) : Ly [] a [(5, ByteArray.empty)] := ⟨_, Lx.nil a, rfl⟩
theorem Ly.blank {l : List UInt8} {a : Nat} {K : List KT} (h : Ly l (a + 1) K) : Ly (32 :: l) a K := by
 obtain ⟨t, h1, h2⟩ := h
 exact ⟨t, Lx.blank h1, h2⟩
theorem Ly.sign {c : UInt8} {l : List UInt8} {a : Nat} {K : List KT} (hc : oneS c = true) (hs : signP (c :: l) = 1) (h : Ly l (a + 1) K) : Ly (c :: l) a ((4, b1 c) :: K) := by
 obtain ⟨t, h1, h2⟩ := h
 exact ⟨_, Lx.sign hc hs h1, by rw [List.map_cons, h2]; rfl⟩
theorem Ly.name {c : UInt8} {w l : List UInt8} {a : Nat} {K : List KT} (k : Int) (hc : letterB c = true) (hw : ∀ x ∈ w, nameB x = true) (hl : l.takeWhile nameB = []) (hk : if isWord ⟨⟨c :: w⟩⟩ = true then k = 3 else (w.length < 12 ∧ k = 1))
  (h : Ly l (a + (w.length + 1)) K) : Ly (c :: (w ++ l)) a ((k, ⟨⟨c :: w⟩⟩) :: K) := by
 obtain ⟨t, h1, h2⟩ := h
 exact ⟨_, Lx.name k hc hw hl hk h1, by rw [List.map_cons, h2]; rfl⟩
theorem sign41 (l : List UInt8) : signP (41 :: l) = 1 := by cases l <;> simp [signP, twoS, oneS] <;> decide
theorem sign59 (l : List UInt8) : signP (59 :: l) = 1 := by cases l <;> simp [signP, twoS, oneS] <;> decide
def chr (k : Nat) : UInt8 := UInt8.ofNat (97 + k)
def qn (k : Nat) : ByteArray := ⟨⟨[113, chr k]⟩⟩
def callT (k : Nat) : List UInt8 := [59, 32, 113, chr k, 40, 41]
def callsT : List Nat → List UInt8
 | [] => []
 | k :: l => callT k ++ callsT l
def headT (i : Nat) : List UInt8 := [112, 114, 111, 99, 101, 100, 117, 114, 101, 32, 113, chr i, 40, 41, 59, 32, 98, 101, 103, 105, 110, 32, 115, 107, 105, 112]
def tailT : List UInt8 := [32, 101, 110, 100, 59]
def procT (p : Nat × List Nat) : List UInt8 := headT p.1 ++ (callsT p.2 ++ tailT)
def procsT : List (Nat × List Nat) → List UInt8
 | [] => []
 | p :: l => procT p ++ procsT l
def preT : List UInt8 := [112, 114, 111, 103, 114, 97, 109, 32, 114, 59]
def endT : List UInt8 := [98, 101, 103, 105, 110, 32, 115, 107, 105, 112, 32, 101, 110, 100, 46]
def ringT (l : List (Nat × List Nat)) : List UInt8 := preT ++ (procsT l ++ endT)
def callK (k : Nat) : List KT := [(4, tSemi), (1, qn k), (4, b1 40), (4, b1 41)]
def callsK : List Nat → List KT
 | [] => []
 | k :: l => callK k ++ callsK l
def headK (i : Nat) : List KT := [(3, tProcedure), (1, qn i), (4, b1 40), (4, b1 41), (4, tSemi), (3, tBegin), (3, tSkip)]
def procK (p : Nat × List Nat) : List KT := headK p.1 ++ (callsK p.2 ++ [(3, tEnd), (4, tSemi)])
def procsK : List (Nat × List Nat) → List KT
 | [] => []
 | p :: l => procK p ++ procsK l
def preK : List KT := [(3, tProgram), (1, b1 114), (4, tSemi)]
def endK : List KT := [(3, tBegin), (3, tSkip), (3, tEnd), (4, b1 46), (5, ByteArray.empty)]
theorem chr_ok : ∀ k, k < 8 → nameB (chr k) = true ∧ isWord ⟨⟨[113, chr k]⟩⟩ = false := by decide +kernel
theorem Ly.qn {k : Nat} (hk : k < 8) {l : List UInt8} {a : Nat} {K : List KT} (hl : l.takeWhile nameB = []) (h : Ly l (a + 2) K) : Ly (113 :: chr k :: l) a ((1, Ring.qn k) :: K) := by
 obtain ⟨h1, h2⟩ := chr_ok k hk
 exact Ly.name (c := 113) (w := [chr k]) 1 rfl (by simpa using h1) hl (by rw [h2]; simp) h
def Stop (l : List UInt8) : Prop := ∃ c m, l = c :: m ∧ nameB c = false
theorem Stop.take {l : List UInt8} (h : Stop l) : l.takeWhile nameB = [] := by
 obtain ⟨c, m, rfl, h⟩ := h
 simp [List.takeWhile, h]
theorem calls_stop (ks : List Nat) (l : List UInt8) : Stop (callsT ks ++ (tailT ++ l)) := by
 cases ks with
 | nil => exact ⟨32, _, rfl, by decide⟩
 | cons k ks => exact ⟨59, _, rfl, by decide⟩
theorem calls_lex : ∀ (ks : List Nat), (∀ k ∈ ks, k < 8) → ∀ {l : List UInt8} {K : List KT}, (∀ a, Ly l a K) → ∀ a, Ly (callsT ks ++ l) a (callsK ks ++ K)
 | [], _, l, K, h, a => h a
 | k :: ks, hk, l, K, h, a => by
  have ih := calls_lex ks (fun x hx => hk x (by simp [hx])) h
  simp only [callsT, callT, callsK, callK, List.cons_append, List.nil_append]
  refine Ly.sign (c := 59) rfl rfl (Ly.blank ?_)
  refine Ly.qn (hk k (by simp)) rfl ?_
  exact Ly.sign (c := 40) rfl rfl (Ly.sign (c := 41) rfl (sign41 _) (ih _))
theorem proc_lex {p : Nat × List Nat} (h1 : p.1 < 8) (h2 : ∀ k ∈ p.2, k < 8) {l : List UInt8} {K : List KT} (h : ∀ a, Ly l a K) (a : Nat) : Ly (procT p ++ l) a (procK p ++ K) := by
 have ht : ∀ a, Ly (tailT ++ l) a ([(3, tEnd), (4, tSemi)] ++ K) := fun a => by
  refine Ly.blank (Ly.name (c := 101) (w := [110, 100]) 3 rfl (by decide) rfl (by rw [if_pos (by decide)]) ?_)
  exact Ly.sign (c := 59) rfl (sign59 _) (h _)
 have hc := calls_lex p.2 h2 ht
 have hs := (calls_stop p.2 l).take
 simp only [procT, headT, procK, headK, List.append_assoc, List.cons_append, List.nil_append] at *
 refine Ly.name (c := 112) (w := [114, 111, 99, 101, 100, 117, 114, 101]) 3 rfl (by decide) rfl (by rw [if_pos (by decide)]) ?_
 refine Ly.blank (Ly.qn h1 rfl ?_)
 refine Ly.sign (c := 40) rfl rfl (Ly.sign (c := 41) rfl rfl (Ly.sign (c := 59) rfl rfl (Ly.blank ?_)))
 refine Ly.name (c := 98) (w := [101, 103, 105, 110]) 3 rfl (by decide) rfl (by rw [if_pos (by decide)]) ?_
 refine Ly.blank (Ly.name (c := 115) (w := [107, 105, 112]) 3 rfl (by decide) hs (by rw [if_pos (by decide)]) ?_)
 exact hc _
theorem procs_lex : ∀ (ps : List (Nat × List Nat)), (∀ p ∈ ps, p.1 < 8 ∧ ∀ k ∈ p.2, k < 8) → ∀ {l : List UInt8} {K : List KT}, (∀ a, Ly l a K) → ∀ a, Ly (procsT ps ++ l) a (procsK ps ++ K)
 | [], _, l, K, h, a => h a
 | p :: ps, hp, l, K, h, a => by
  have ih := procs_lex ps (fun x hx => hp x (by simp [hx])) h
  simp only [procsT, procsK, List.append_assoc]
  exact proc_lex (hp p (by simp)).1 (hp p (by simp)).2 ih a
theorem ring_lex {ps : List (Nat × List Nat)} (hp : ∀ p ∈ ps, p.1 < 8 ∧ ∀ k ∈ p.2, k < 8) : Ly (ringT ps) 0 (preK ++ (procsK ps ++ endK)) := by
 have he : ∀ a, Ly endT a endK := fun a => by
  refine Ly.name (c := 98) (w := [101, 103, 105, 110]) 3 rfl (by decide) rfl (by rw [if_pos (by decide)]) ?_
  refine Ly.blank (Ly.name (c := 115) (w := [107, 105, 112]) 3 rfl (by decide) rfl (by rw [if_pos (by decide)]) ?_)
  refine Ly.blank (Ly.name (c := 101) (w := [110, 100]) 3 rfl (by decide) rfl (by rw [if_pos (by decide)]) ?_)
  exact Ly.sign (c := 46) rfl rfl (Ly.nil _)
 have h := procs_lex ps hp he
 have hs : (procsT ps ++ endT).takeWhile nameB ≠ [] ∨ True := .inr trivial
 simp only [ringT, preT, preK, List.cons_append, List.nil_append]
 refine Ly.name (c := 112) (w := [114, 111, 103, 114, 97, 109]) 3 rfl (by decide) rfl (by rw [if_pos (by decide)]) ?_
 refine Ly.blank (Ly.name (c := 114) (w := []) 1 rfl (by decide) rfl (by rw [if_neg (by decide)]; simp) ?_)
 exact Ly.sign (c := 59) rfl (sign59 _) (h _)
def V (L : List Tk) (p : Nat) (K : List KT) : Prop := (L.drop p).map kt = K
theorem V.tok {L : List Tk} {p : Nat} {k : KT} {K : List KT} (h : V L p (k :: K)) : (tok L p).kind = k.1 ∧ (tok L p).text = k.2 := by
 unfold V at h
 have e := tok_drop (L := L) (p := p) rfl 0
 rw [Nat.add_zero] at e
 cases hd : L.drop p with
 | nil => rw [hd] at h; cases h
 | cons t l =>
  rw [hd] at h e
  simp only [List.map_cons, List.cons.injEq] at h
  simp only [List.getD_cons_zero] at e
  rw [e, ← h.1]
  exact ⟨rfl, rfl⟩
theorem V.next {L : List Tk} {p : Nat} {k : KT} {K : List KT} (h : V L p (k :: K)) : V L (p + 1) K := by
 unfold V at h ⊢
 rw [← List.drop_drop]
 cases hd : L.drop p with
 | nil => rw [hd] at h; cases h
 | cons t l =>
  rw [hd] at h
  simp only [List.map_cons, List.cons.injEq] at h
  exact h.2
theorem isP_V {L : List Tk} {p : Nat} {k : KT} {K : List KT} (h : V L p (k :: K)) (x : ByteArray) : isP L ⟨p, 0, 0⟩ x = decide ((k.1 = 3 ∨ k.1 = 4) ∧ k.2 = x) := by
 obtain ⟨h1, h2⟩ := h.tok
 simp only [isP, h1, h2, true_and]
theorem skip_read {L : List Tk} {p n : Nat} {lv : Int} {K : List KT} (h : V L p ((3, tSkip) :: K)) : stmtP branP L (n + 1) lv ⟨p, 0, 0⟩ = some (.mk 1 (tok L p).at_ ByteArray.empty [] [] [] [] [], ⟨p + 1, 0, 0⟩) := by
 rw [stmtP]
 have h1 := h.tok.1
 simp only [] at h1
 rw [if_neg (by rw [h1]; decide), if_pos (by rw [isP_V h]; simp)]
 rfl
theorem call_read {L : List Tk} {p n k : Nat} {lv : Int} {K : List KT} (h : V L p ((1, qn k) :: (4, b1 40) :: (4, b1 41) :: K)) : ∃ st, stmtP branP L (n + 1) lv ⟨p, 0, 0⟩ = some (st, ⟨p + 3, 0, 0⟩) := by
 rw [stmtP]
 have h1 := h.tok.1
 simp only [] at h1
 rw [if_pos h1]
 have e1 : nameS L ⟨p, 0, 0⟩ = ⟨p + 1, 0, 0⟩ := by simp [nameS, h1]
 have i2 := isP_V h.next (b1 40)
 have i3 := isP_V h.next.next (b1 41)
 simp at i2 i3
 have e2 : mustS L ⟨p + 1, 0, 0⟩ (b1 40) = ⟨p + 2, 0, 0⟩ := by simp [mustS, i2]
 refine ⟨.mk 6 (nameP L ⟨p, 0, 0⟩).at_ (nameP L ⟨p, 0, 0⟩).name [] [] [] [] [], ?_⟩
 unfold namedP
 rw [e1, if_pos i2]
 unfold argsP
 rw [e2, if_pos i3]
 rfl
theorem calls_read {L : List Tk} : ∀ (ks : List Nat) (acc : List Stm) (p n : Nat) (lv : Int) {R : List KT}, V L p (callsK ks ++ (3, tEnd) :: R) → ks.length < n →
  ∃ st, stmtsL branP L n lv acc (isP L ⟨p, 0, 0⟩ tSemi) (takeS L ⟨p, 0, 0⟩ tSemi) = some (st, ⟨p + 4 * ks.length, 0, 0⟩)
 | [], acc, p, n, lv, R, h, hn => by
  have i1 := isP_V h tSemi
  have e : isP L ⟨p, 0, 0⟩ tSemi = false := by rw [i1]; decide
  obtain ⟨m, rfl⟩ : ∃ m, n = m + 1 := ⟨n - 1, by omega⟩
  rw [e]
  refine ⟨acc, ?_⟩
  rw [stmtsL, if_neg (by simp)]
  simp [takeS, e]
 | k :: ks, acc, p, n, lv, R, h, hn => by
  simp only [List.length_cons] at hn
  obtain ⟨m, rfl⟩ : ∃ m, n = m + 2 := ⟨n - 2, by omega⟩
  simp only [callsK, callK, List.cons_append, List.nil_append] at h
  have i1 := isP_V h tSemi
  simp at i1
  obtain ⟨s1, e1⟩ := call_read (n := m) (lv := lv) h.next
  obtain ⟨st, e2⟩ := calls_read ks (acc ++ [s1]) (p + 1 + 3) (m + 1) lv h.next.next.next.next (by omega)
  refine ⟨st, ?_⟩
  rw [stmtsL, if_pos (by simp [i1, takeS])]
  have e3 : takeS L ⟨p, 0, 0⟩ tSemi = ⟨p + 1, 0, 0⟩ := by simp [takeS, i1]
  rw [e3, e1, Option.bind_some]
  simp only []
  rw [e2]
  simp only [List.length_cons, Option.some.injEq, Prod.mk.injEq, PS.mk.injEq, true_and, and_true]
  omega
theorem body_read {L : List Tk} (ks : List Nat) (p n : Nat) (lv : Int) {R : List KT} (h : V L p ((3, tSkip) :: (callsK ks ++ (3, tEnd) :: R))) (hn : ks.length + 1 < n) :
  ∃ st, stmtsL branP L n lv [] true ⟨p, 0, 0⟩ = some (st, ⟨p + 1 + 4 * ks.length, 0, 0⟩) := by
 obtain ⟨m, rfl⟩ : ∃ m, n = m + 2 := ⟨n - 2, by omega⟩
 obtain ⟨st, e⟩ := calls_read ks ([] ++ [.mk 1 (tok L p).at_ ByteArray.empty [] [] [] [] []]) (p + 1) (m + 1) lv h.next (by omega)
 refine ⟨st, ?_⟩
 rw [stmtsL, if_pos ⟨rfl, rfl⟩, skip_read h, Option.bind_some]
 exact e
theorem V.calls {L : List Tk} : ∀ (ks : List Nat) {p : Nat} {R : List KT}, V L p (callsK ks ++ R) → V L (p + 4 * ks.length) R
 | [], p, R, h => h
 | k :: ks, p, R, h => by
  simp only [callsK, callK, List.cons_append, List.nil_append] at h
  have := V.calls ks h.next.next.next.next
  simp only [List.length_cons]
  rw [show p + 4 * (ks.length + 1) = p + 1 + 1 + 1 + 1 + 4 * ks.length by omega]
  exact this
theorem must_V {L : List Tk} {p : Nat} {k : KT} {K : List KT} (h : V L p (k :: K)) (hk : k.1 = 3 ∨ k.1 = 4) : mustS L ⟨p, 0, 0⟩ k.2 = ⟨p + 1, 0, 0⟩ := by
 have i := isP_V h k.2
 simp [hk] at i
 simp [mustS, i]
theorem name_V {L : List Tk} {p : Nat} {x : ByteArray} {K : List KT} (h : V L p ((1, x) :: K)) : nameS L ⟨p, 0, 0⟩ = ⟨p + 1, 0, 0⟩ := by
 have h1 := h.tok.1
 simp only [] at h1
 simp [nameS, h1]
theorem proc_read {L : List Tk} {q : Nat × List Nat} {p n : Nat} {R : List KT} (h : V L p ((1, qn q.1) :: (4, b1 40) :: (4, b1 41) :: (4, tSemi) :: (3, tBegin) :: (3, tSkip) :: (callsK q.2 ++ (3, tEnd) :: (4, tSemi) :: R))) (hn : q.2.length + 1 < n) :
  ∃ x, procP branP L n ⟨p, 0, 0⟩ = some (x, ⟨p + 8 + 4 * q.2.length, 0, 0⟩) ∧ V L (p + 8 + 4 * q.2.length) R := by
 have e1 := name_V h
 have e2 := must_V h.next (.inr rfl)
 have i3 := isP_V h.next.next (b1 41)
 simp at i3
 have e3 := must_V h.next.next (.inr rfl)
 have e4 := must_V h.next.next.next (.inr rfl)
 have i5 : isP L ⟨p + 1 + 1 + 1 + 1, 0, 0⟩ tVar = false := by rw [isP_V h.next.next.next.next]; decide
 have e5 := must_V h.next.next.next.next (.inl rfl)
 obtain ⟨st, e6⟩ := body_read q.2 _ n 1 h.next.next.next.next.next hn
 have h7 := V.calls q.2 h.next.next.next.next.next.next
 have e7 := must_V h7 (.inl rfl)
 have e8 := must_V h7.next (.inr rfl)
 obtain ⟨m, rfl⟩ : ∃ m, n = m + 1 := ⟨n - 1, by omega⟩
 simp only [] at e2 e3 e4 e5 e7 e8
 refine ⟨⟨(nameP L ⟨p, 0, 0⟩).at_, (nameP L ⟨p, 0, 0⟩).name, [], [], st⟩, ?_, ?_⟩
 · unfold procP
   rw [e1, e2]
   unfold paramsP
   rw [if_pos i3, Option.bind_some]
   simp only []
   rw [e3, e4, varsL, i5, if_neg (by simp), Option.bind_some]
   simp only []
   rw [e5, e6, Option.map_some]
   simp only []
   rw [e7, e8]
   simp only [Option.some.injEq, Prod.mk.injEq, PS.mk.injEq, true_and, and_true]
   omega
 · have := h7.next.next
   rw [show p + 8 + 4 * q.2.length = p + 1 + 1 + 1 + 1 + 1 + 1 + 4 * q.2.length + 1 + 1 by omega]
   exact this
theorem procs_read {L : List Tk} : ∀ (ps : List (Nat × List Nat)) (acc : List Prc) (p n : Nat) {R : List KT}, (∀ q ∈ ps, q.2.length ≤ 8) → V L p (procsK ps ++ (3, tBegin) :: R) → ps.length + 20 < n →
  ∃ xs p', procsL branP L n acc ⟨p, 0, 0⟩ = some (xs, ⟨p', 0, 0⟩) ∧ V L p' ((3, tBegin) :: R)
 | [], acc, p, n, R, hq, h, hn => by
  obtain ⟨m, rfl⟩ : ∃ m, n = m + 1 := ⟨n - 1, by omega⟩
  have i1 : isP L ⟨p, 0, 0⟩ tProcedure = false := by rw [isP_V h]; decide
  exact ⟨acc, p, by rw [procsL, i1, if_neg (by simp)], h⟩
 | q :: ps, acc, p, n, R, hq, h, hn => by
  simp only [List.length_cons] at hn
  obtain ⟨m, rfl⟩ : ∃ m, n = m + 1 := ⟨n - 1, by omega⟩
  simp only [procsK, procK, headK, List.append_assoc, List.cons_append, List.nil_append] at h
  have i1 : isP L ⟨p, 0, 0⟩ tProcedure = true := by rw [isP_V h]; decide
  obtain ⟨x, e1, h1⟩ := proc_read (n := m) h.next (by have := hq q (by simp); omega)
  obtain ⟨xs, p', e2, h2⟩ := procs_read ps (acc ++ [x]) _ m (fun r hr => hq r (by simp [hr])) h1 (by omega)
  refine ⟨xs, p', ?_, h2⟩
  rw [procsL, i1, if_pos rfl]
  have e3 : PS.on ⟨p, 0, 0⟩ = ⟨p + 1, 0, 0⟩ := rfl
  rw [e3, e1, Option.bind_some]
  exact e2
theorem ring_parse {ps : List (Nat × List Nat)} (hl : ps.length ≤ 8) (hp : ∀ p ∈ ps, p.1 < 8 ∧ p.2.length ≤ 8 ∧ ∀ k ∈ p.2, k < 8) : ∃ s, parseP branP (ringT ps) 60 = some (.inl s) := by
 obtain ⟨L, hx, hK⟩ := ring_lex (ps := ps) fun p h => ⟨(hp p h).1, (hp p h).2.2⟩
 have h0 : V L 0 (preK ++ (procsK ps ++ endK)) := by rw [V, List.drop_zero]; exact hK
 simp only [preK, endK, List.cons_append, List.nil_append] at h0
 have e1 := must_V h0 (.inl rfl)
 have e2 := name_V h0.next
 have e3 := must_V h0.next.next (.inr rfl)
 simp only [] at e1 e3
 have h3 := h0.next.next.next
 have hk : kindP L ⟨0 + 1 + 1 + 1, 0, 0⟩ = 0 := by
  have i : ∀ x, x = tResource ∨ x = tSemaphore ∨ x = tShared ∨ x = tVar → isP L ⟨0 + 1 + 1 + 1, 0, 0⟩ x = false := by
   intro x hx1
   cases ps with
   | nil => rw [isP_V h3]; rcases hx1 with rfl | rfl | rfl | rfl <;> decide
   | cons p ps =>
    simp only [procsK, procK, headK, List.append_assoc, List.cons_append] at h3
    rw [isP_V h3]; rcases hx1 with rfl | rfl | rfl | rfl <;> decide
  unfold kindP
  rw [i _ (.inl rfl), i _ (.inr (.inl rfl)), i _ (.inr (.inr (.inl rfl))), i _ (.inr (.inr (.inr rfl)))]
  simp
 obtain ⟨xs, p', e4, h4⟩ := procs_read ps [] _ 60 (fun q hq => (hp q hq).2.1) h3 (by omega)
 have i5 : isP L ⟨p', 0, 0⟩ tClaims = false := by rw [isP_V h4]; decide
 have e5 := must_V h4 (.inl rfl)
 obtain ⟨st, e6⟩ := body_read [] (p' + 1) 60 1 (R := [(4, b1 46), (5, ByteArray.empty)]) h4.next (by decide)
 simp only [List.length_nil, Nat.mul_zero, Nat.add_zero] at e6
 have h7 := h4.next.next
 have e7 := must_V h7 (.inl rfl)
 have e8 := must_V h7.next (.inr rfl)
 have t9 := h7.next.next.tok.1
 simp only [] at e5 e7 e8 t9
 refine ⟨⟨(nameP L ⟨0 + 1, 0, 0⟩).name, [], xs, [], st⟩, ?_⟩
 unfold parseP
 rw [hx.all, Option.bind_some]
 simp only [srcP]
 rw [e1, e2, e3, declsL, if_pos rfl, hk, if_pos rfl, Option.bind_some]
 simp only []
 rw [e4, Option.bind_some]
 unfold claimsP
 simp only []
 rw [i5, if_neg (by simp), Option.bind_some]
 simp only []
 rw [e5, e6, Option.map_some]
 simp only []
 rw [e7, e8]
 simp [endS, t9]
end Go.Vm.Ring
namespace Go.Vm.Parse
open Go Go.Proofs
theorem bin_cat2 (x y : Operand) (a b : ByteArray) (h : a.size + b.size ≤ 100000) : exBin Try.prog .add 9 x y (.string a) (.string b) = some (.string (a ++ b)) := by
 have e : Op.stringOp .add a b = pure (.string (a ++ b)) := by
  show (if ((a.size + b.size : Nat) : Int) > IntKind.i64.max then _ else _) = _
  rw [if_neg (by have : IntKind.i64.max = 9223372036854775807 := rfl; omega)]
 simp only [exBin, ground_string, Bool.and_self]
 rw [pureRun_bind _ (eqGuard .add 9 x y (.string a) (.string b)) () rfl]
 show ifGround (pureRun Try.prog (Op.stringOp .add a b)) = _
 rw [e]
 rfl
theorem app_list2 (x y : ByteArray) : (x ++ y).data.toList = x.data.toList ++ y.data.toList := by
 rw [ByteArray.data_append]; simp
end Go.Vm.Parse
namespace Go.Vm.Make
open Go Go.Proofs Go.Vm.Parse
attribute [local simp] repCells_succ writeAt rd_Fr toList_beq gpe gpn spe gse gsn ne_r0 ne_l0 le_s0 ne_r1 ne_l1 lt_s1 le_s1 ne_r2 ne_l2 lt_s2 le_s2 ne_r3 ne_l3 lt_s3 le_s3
def OutS (H : Heap) (S : Nat → Prop) (v : Value) (out : List UInt8) : Prop :=
 (v = .slice none 0 0 ∧ out = []) ∨ ∃ id tl, v = .slice (some ⟨id, 0, none⟩) out.length out.length ∧ tl ≤ 1 ∧ S id ∧ H.get id = .row true tl 1 (out.map byteC)
theorem OutS.slice {H : Heap} {S : Nat → Prop} {v : Value} {out : List UInt8} (h : OutS H S v out) : ∃ b, v = .slice b out.length out.length := by
 rcases h with ⟨rfl, rfl⟩ | ⟨id, tl, rfl, _⟩
 · exact ⟨none, rfl⟩
 · exact ⟨_, rfl⟩
theorem OutS.move {H H' : Heap} {X S S' : Nat → Prop} {v : Value} {out : List UInt8} (h : OutS H S v out) (k : Same X H H') (hs : ∀ i, S i → i < H.n → S' i ∧ ¬ X i) : OutS H' S' v out := by
 refine h.imp id ?_
 rintro ⟨id, tl, h1, h2, h3, h4⟩
 have := hs id h3 (Heap.lt_of_get h4 (by simp))
 exact ⟨id, tl, h1, h2, this.1, k.at h4 (by simp) this.2⟩
theorem out_app {H : Heap} {S : Nat → Prop} {v : Value} {out : List UInt8} (h : OutS H S v out) (s : ByteArray) (hl : out.length + s.size ≤ 1000000000) :
  ∃ b' H', exAppend Try.prog [35, 9] v (.string s) H = some (.slice b' (out.length + s.size) (out.length + s.size), H') ∧ OutS H' (fun i => S i ∨ H.n ≤ i) (.slice b' (out.length + s.size) (out.length + s.size)) (out ++ s.data.toList) ∧ Same S H H' := by
 obtain ⟨⟨l⟩⟩ := s
 have sz : (⟨⟨l⟩⟩ : ByteArray).size = l.length := rfl
 have e0 : (⟨⟨l⟩⟩ : ByteArray).data.toList = l := rfl
 rw [sz] at hl ⊢
 rw [e0]
 have hc : cellsOf H 1 l.length (.string ⟨⟨l⟩⟩) = some (l.map byteC) := by simp [cellsOf, sz, byteC]
 by_cases h0 : l = []
 · subst h0
   simp only [List.length_nil, List.map_nil] at hc
   rcases h with ⟨rfl, rfl⟩ | ⟨id, tl, rfl, h2, h3, h4⟩
   · refine ⟨none, H, ?_, .inl ⟨rfl, rfl⟩, Same.refl _ _⟩
     simp [exAppend, exAppendRow, sz, hc]
   · refine ⟨some ⟨id, 0, none⟩, H, ?_, .inr ⟨id, tl, by simp, h2, .inl h3, by simpa using h4⟩, Same.refl _ _⟩
     simp only [List.length_nil] at hl
     simp [exAppend, exAppendRow, sz, hc, show (out.length + 200) ≤ 140737488355328 by omega, show out.length ≤ 140737488355328 by omega, show out.length ≤ 140737488355128 by omega]
 · have hn : ¬ l.length = 0 := fun h => h0 (List.length_eq_zero_iff.1 h)
   rcases h with ⟨rfl, rfl⟩ | ⟨id, tl, rfl, h2, h3, h4⟩
   · simp only [List.length_nil, Nat.zero_add] at hl
     refine ⟨some ⟨H.n, 0, none⟩, H.push (.row true 1 1 (l.map byteC)), ?_, .inr ⟨H.n, 1, by simp, Nat.le_refl _, .inr (Nat.le_refl _), by simp [Heap.get_push]⟩, Same.push _ _ _⟩
     simp [exAppend, exAppendRow, sz, hc, h0, hn, show l.length + 200 ≤ 140737488355328 by omega, show l.length ≤ 140737488355328 by omega, show l.length ≤ 140737488355128 by omega]
   · have hid := Heap.lt_of_get h4 (by simp)
     have f1 : (out.length + l.length + 200) ≤ 140737488355328 := by omega
     have f2 : out.length + l.length ≤ 140737488355328 := by omega
     have f3 : ¬ out.length + l.length ≤ out.length := by omega
     have f4 : out.length + l.length ≤ 140737488355128 := by omega
     have f5 : (out.map byteC).take out.length = out.map byteC := List.take_of_length_le (by simp)
     rcases (show tl = 0 ∨ tl = 1 by omega) with rfl | rfl
     · refine ⟨some ⟨H.n, 0, none⟩, H.push (.row true 1 1 (out.map byteC ++ l.map byteC)), ?_, .inr ⟨H.n, 1, by simp, Nat.le_refl _, .inr (Nat.le_refl _), by simp [Heap.get_push]⟩, Same.push _ _ _⟩
       simp [exAppend, exAppendRow, sz, hc, h4, h0, hn, f1, f2, f3, f4, f5]
     · refine ⟨some ⟨H.n, 0, none⟩, (H.set id .dead).push (.row true 1 1 (out.map byteC ++ l.map byteC)), ?_, .inr ⟨H.n, 1, by simp, Nat.le_refl _, .inr (Nat.le_refl _), by simp [Heap.get_push]⟩, (Same.set H hid h3 _).then_push _⟩
       simp [exAppend, exAppendRow, sz, hc, h4, h0, hn, f1, f2, f3, f4, f5]
structure MK (H0 H : Heap) (mid : Nat) (nv : Value) (N : List Int) (lo hi : Nat) (p : Int) (inn : ByteArray) (a : Nat) (left : Int) (ov : Value) (out : List UInt8) : Prop where
 kp : Same (fun i => H0.n ≤ i) H0 H
 hm : H0.n ≤ mid
 obj : H.get mid = .row true 0 1 [nv, .int .i64 a, ov, .int .i64 p, .string inn, .int .i64 left]
 ha : a ≤ N.length
 go : OutS H (fun i => H0.n ≤ i ∧ i ≠ mid) ov out
 lo : lo ≤ out.length
 hi : out.length ≤ hi
def MKx (H0 H : Heap) (mid : Nat) (nv : Value) (N : List Int) (lo hi : Nat) (p : Int) (inn : ByteArray) : Prop := ∃ a left ov out, MK H0 H mid nv N lo hi p inn a left ov out
theorem MK.lt {H0 H : Heap} {mid : Nat} {nv : Value} {N : List Int} {lo hi : Nat} {p : Int} {inn : ByteArray} {a : Nat} {left : Int} {ov : Value} {out : List UInt8} (h : MK H0 H mid nv N lo hi p inn a left ov out) : mid < H.n := Heap.lt_of_get h.obj (by simp)
theorem MKx.more {H0 H : Heap} {mid : Nat} {nv : Value} {N : List Int} {lo hi : Nat} {p : Int} {inn : ByteArray} (h : MKx H0 H mid nv N lo hi p inn) {hi' : Nat} (hh : hi ≤ hi') : MKx H0 H mid nv N lo hi' p inn := by
 obtain ⟨a, left, ov, out, h⟩ := h
 exact ⟨a, left, ov, out, h.kp, h.hm, h.obj, h.ha, h.go, h.lo, Nat.le_trans h.hi hh⟩
theorem SL.at {H : Heap} {nv : Value} {N : List Int} (h : SL H nv N) {a : Nat} (ha : a < N.length) : ∃ r off own tl es cs cap, nv = .slice (some ⟨r, off, none⟩) N.length cap ∧ H.get r = .row own tl es cs ∧ ∃ h : off + a < cs.length, cs[off + a]'h = .int .i64 N[a] := by
 obtain ⟨base, cap, rfl, ⟨rfl, rfl⟩ | ⟨r, off, own, tl, es, cs, rfl, h2, h3, h4⟩⟩ := h
 · cases ha
 · refine ⟨r, off, own, tl, es, cs, cap, rfl, h2, by omega, ?_⟩
   have e : ((cs.drop off).take N.length)[a]? = some (.int .i64 N[a]) := by rw [h4]; simp [ha]
   rw [List.getElem?_take_of_lt ha, List.getElem?_drop] at e
   exact (List.getElem?_eq_some_iff.1 e).2
theorem SL.keep {H0 H : Heap} {nv : Value} {N : List Int} (h : SL H0 nv N) (k : Same (fun i => H0.n ≤ i) H0 H) : SL H nv N :=
 h.same fun i o e d => k.at e d (by have := Heap.lt_of_get e d; omega)
section
variable {E : Hooks} (hE : Plain E)
include hE
end
end Go.Vm.Make
namespace Go.Vm.Ring
open Go Go.Proofs Go.Vm.Parse Go.Vm.Make
attribute [local simp] repCells_succ writeAt rd_Fr toList_beq gpe gpn spe gse gsn
def bit (n : Nat) (l : List Int) (i k : Nat) : Bool := decide (i * n + k < l.length ∧ (l.getD (i * n + k) 0).tmod 2 ≠ 0)
def ksF (n : Nat) (l : List Int) (i j : Nat) : List Nat := (List.range j).filter (bit n l i)
def psF (n : Nat) (l : List Int) (i : Nat) : List (Nat × List Nat) := (List.range i).map fun i => (i, ksF n l i n)
theorem callsT_app : ∀ (a b : List Nat), callsT (a ++ b) = callsT a ++ callsT b
 | [], b => rfl
 | k :: a, b => by simp only [List.cons_append, callsT, callsT_app a b, List.append_assoc]
theorem procsT_app : ∀ (a b : List (Nat × List Nat)), procsT (a ++ b) = procsT a ++ procsT b
 | [], b => rfl
 | k :: a, b => by simp only [List.cons_append, procsT, procsT_app a b, List.append_assoc]
theorem ksF_succ (n : Nat) (l : List Int) (i j : Nat) : callsT (ksF n l i (j + 1)) = if bit n l i j = true then callsT (ksF n l i j) ++ callT j else callsT (ksF n l i j) := by
 unfold ksF
 rw [List.range_succ, List.filter_append]
 by_cases h : bit n l i j = true
 · rw [if_pos h]; simp [List.filter_cons, h, callsT_app, callsT]
 · rw [if_neg h]; simp [List.filter_cons, h]
theorem psF_succ (n : Nat) (l : List Int) (i : Nat) : procsT (psF n l (i + 1)) = procsT (psF n l i) ++ (headT i ++ (callsT (ksF n l i n) ++ tailT)) := by
 unfold psF
 rw [List.range_succ, List.map_append, procsT_app]
 simp [procsT, procT]
theorem ksF_len (n : Nat) (l : List Int) (i j : Nat) : (ksF n l i j).length ≤ j := by
 have := List.length_filter_le (bit n l i) (List.range j)
 simpa [ksF] using this
theorem callsT_len : ∀ ks : List Nat, (callsT ks).length = 6 * ks.length
 | [] => rfl
 | k :: ks => by have := callsT_len ks; simp only [callsT, callT, List.length_append, List.length_cons, List.length_nil, this]; omega
theorem procsT_len : ∀ ps : List (Nat × List Nat), (∀ p ∈ ps, p.2.length ≤ 8) → (procsT ps).length ≤ 79 * ps.length
 | [], _ => Nat.le_refl _
 | p :: ps, h => by
  have ih := procsT_len ps fun q hq => h q (by simp [hq])
  have h1 := h p (by simp)
  simp only [procsT, procT, List.length_append, callsT_len, headT, tailT, List.length_cons, List.length_nil]
  omega
theorem psF_ok {n : Nat} (hn : n ≤ 8) (l : List Int) (i : Nat) (hi : i ≤ n) : (psF n l i).length = i ∧ ∀ p ∈ psF n l i, p.1 < 8 ∧ p.2.length ≤ 8 ∧ ∀ k ∈ p.2, k < 8 := by
 refine ⟨by simp [psF], fun p hp => ?_⟩
 simp only [psF, List.mem_map, List.mem_range] at hp
 obtain ⟨j, hj, rfl⟩ := hp
 refine ⟨by simp; omega, by have := ksF_len n l j n; simp; omega, fun k hk => ?_⟩
 simp only [ksF, List.mem_filter, List.mem_range] at hk
 omega
theorem chr_nat (k : Nat) (hk : k < 8) : (chr k).toNat = 97 + k := by unfold chr; rw [UInt8.toNat_ofNat']; omega
theorem wrap_chr (k : Nat) (hk : k < 8) : IntKind.u8.wrap (97 + (k : Int)) = ((chr k).toNat : Int) := by
 rw [chr_nat k hk]
 unfold IntKind.wrap
 simp [IntKind.bits, IntKind.signed]
 omega
theorem conv_chr (K : Heap) (k : Nat) : exConvert Try.prog 35 9 (.slice (some ⟨K.n, 0, none⟩) 1 1) (K.push (.row true 0 1 [.int .u8 ((chr k).toNat : Int)])) = some (.string ⟨#[chr k]⟩, K.push (.row true 0 1 [.int .u8 ((chr k).toNat : Int)])) := by
 simp [exConvert, byteList, Heap.get_push]
theorem out_appAt {H : Heap} {id tl r : Nat} {out : List UInt8} {s : ByteArray} (hg : H.get id = .row true tl 1 (out.map byteC)) (htl : tl ≤ 1) (hr : r < H.n) (hne : r ≠ id) (hm : out.length ≤ 100000) (hs : 0 < s.size) (hs2 : s.size ≤ 100000) :
  ∃ H', exAppendAt Try.prog [35, 9] (.slice (some ⟨id, 0, none⟩) out.length out.length) (.string s) r H = some (.slice (some ⟨r, 0, none⟩) (out.length + s.size) (out.length + s.size), H') ∧ H'.get r = .row true 1 1 ((out ++ s.data.toList).map byteC) ∧ H'.n = H.n ∧ ∀ j, j ≠ r → j ≠ id → H'.get j = H.get j := by
 have hid := Heap.lt_of_get hg (by simp)
 obtain ⟨⟨l⟩⟩ := s
 have sz : (⟨⟨l⟩⟩ : ByteArray).size = l.length := rfl
 have e0 : (⟨⟨l⟩⟩ : ByteArray).data.toList = l := rfl
 rw [sz] at hs hs2 ⊢
 rw [e0]
 have hc : cellsOf H 1 l.length (.string ⟨⟨l⟩⟩) = some (l.map byteC) := by simp [cellsOf, sz, byteC]
 have h1 : elemT Try.prog 35 = some 5 := by kernel_rfl
 have h2 : sizeT Try.prog 5 = some 1 := by kernel_rfl
 have h3 : bytesT Try.prog 5 = some 1 := by kernel_rfl
 have h4 : zeroT Try.prog 5 = some (.int .u8 0) := by kernel_rfl
 have h5 : Try.prog.underlying 9 = some .string := by kernel_rfl
 have h6 : lenA (.string ⟨⟨l⟩⟩) = some l.length := by simp [lenA, sz]
 have hz : (Value.int .u8 0).cells.toList.length = 1 := rfl
 have f5 : (out.map byteC).take out.length = out.map byteC := List.take_of_length_le (by simp)
 have hne0 : ¬ l.length = 0 := by omega
 have hne1 : ¬ l = [] := fun h => by rw [h] at hs; simp at hs
 rcases (show tl = 0 ∨ tl = 1 by omega) with rfl | rfl
 · refine ⟨H.pushAt r (.row true 1 1 ((out ++ l).map byteC)), ?_, by rw [Heap.get_pushAt (by omega), if_pos rfl], by rw [Heap.pushAt_lt hr]; rfl, fun j h1 h2 => by rw [Heap.get_pushAt (by omega), if_neg h1]⟩
   simp only [exAppendAt, h1, h5, exAppendRow, h2, h3, h4, h6, hc, hg]
   simp [hz, hne0, hne1, show out.length + l.length + 200 ≤ 140737488355328 by omega, show out.length + l.length ≤ 140737488355328 by omega, show out.length + l.length ≤ 140737488355128 by omega, f5]
   exact hs
 · refine ⟨(H.set id .dead).pushAt r (.row true 1 1 ((out ++ l).map byteC)), ?_, by rw [Heap.get_pushAt (by simp; omega), if_pos rfl], by rw [Heap.pushAt_lt (by simpa using hr)]; rfl, fun j h1 h2 => by rw [Heap.get_pushAt (by simp; omega), if_neg h1, Heap.get_set _ _ _ hid, if_neg h2]⟩
   simp only [exAppendAt, h1, h5, exAppendRow, h2, h3, h4, h6, hc, hg]
   simp [hz, hne0, hne1, show out.length + l.length + 200 ≤ 140737488355328 by omega, show out.length + l.length ≤ 140737488355328 by omega, show out.length + l.length ≤ 140737488355128 by omega, f5]
   exact hs
theorem no_ring : planOf Try.prog (drawN Try.f6 0) = none := by decide +kernel
theorem la_ring : lateAt (drawN Try.f6 0) = none := by decide +kernel
theorem pre_ring : preOf (drawN Try.f6 0) = [0, 0, 0, 4, 12, 28, 60, 126, 254, 511, 1023] := by decide +kernel
theorem ok_ring : freeOK (drawN Try.f6 0) [0, 0, 0, 4, 12, 28, 60, 126, 254, 511, 1023] = true := by decide +kernel
theorem ne_ring : needAll (drawN Try.f6 0) = 3 := by decide +kernel
def RgI (H : Heap) (out : List UInt8) (v : Value) (K : Heap) : Prop := Same (fun _ => False) H K ∧ ∃ id tl, v = .slice (some ⟨id, 0, none⟩) out.length out.length ∧ tl ≤ 1 ∧ H.n ≤ id ∧ K.get id = .row true tl 1 (out.map byteC)
theorem RgI.keep {H K K' : Heap} {out : List UInt8} {v : Value} (h : RgI H out v K) (k : Same (fun _ => False) K K') : RgI H out v K' := by
 obtain ⟨h0, id, tl, h1, h2, h3, h4⟩ := h
 exact ⟨h0.trans k, id, tl, h1, h2, h3, k.at h4 (by simp) fun h => h⟩
theorem RgI.app {H K : Heap} {out : List UInt8} {v : Value} (h : RgI H out v K) (s : ByteArray) (hs : 0 < s.size) (hl : out.length + s.size ≤ 100000) : ∃ b K', exAppend Try.prog [35, 9] v (.string s) K = some (.slice b (out.length + s.size) (out.length + s.size), K') ∧ RgI H (out ++ s.data.toList) (.slice b (out.length + s.size) (out.length + s.size)) K' := by
 obtain ⟨k, id, tl, rfl, htl, hid, hg⟩ := h
 obtain ⟨b, K', e, g, kK⟩ := out_app (S := fun i => H.n ≤ i) (.inr ⟨id, tl, rfl, htl, hid, hg⟩) s (by omega)
 have hKn := k.n
 refine ⟨b, K', e, k.then kK fun i hi => .inr hi, ?_⟩
 rcases g with ⟨h1, h2⟩ | ⟨id', tl', h1, h2, h3, h4⟩
 · simp only [Value.slice.injEq] at h1
   omega
 · refine ⟨id', tl', ?_, h2, by omega, h4⟩
   rw [h1]
section
variable {E : Hooks} (hE : Plain E)
include hE
theorem c_ring (args : List Value) (H : Heap) : (run Try.prog E).call 6 args H = callB Try.prog E Try.f6 args H := call_B Try.func6 rfl (by decide +kernel) (hE.no _ rfl rfl) args H
theorem ring_run {H : Heap} {lv : Value} {l : List Int} (hl : SL H lv l) {n : Nat} (hn : n ≤ 8) (hlen : l.length ≤ 64) :
  Gives ((run Try.prog E).call 6 [.int .i64 n, lv] H) fun o K => ∃ v, o = .val v ∧ RgI H (ringT (psF n l n)) v K := by
 obtain ⟨lb, lc, rfl⟩ : ∃ b c, lv = .slice b l.length c := by obtain ⟨b, c, rfl, _⟩ := hl; exact ⟨b, c, rfl⟩
 have cv : ∀ (cs : List Value), exConvert Try.prog 35 35 (.slice (some ⟨H.n, 0, none⟩) 10 10) (H.push (.row true 0 1 cs)) = some (.slice (some ⟨H.n, 0, none⟩) 10 10, H.push (.row true 0 1 cs)) := fun cs => by
  simp [exConvert, Heap.get_push]
 have f_conv : ∀ x H, exConvert Try.prog 3 5 (.int .i64 x) H = some (.int .u8 (IntKind.u8.wrap x), H) := fun _ _ => rfl
 rw [c_ring hE, callB, bodyOf]
 simp [Try.f6, cv]
 refine loop_mid (fun t K => ∃ v, rd t 5 = v ∧ RgI H (preT ++ procsT (psF n l n)) v K) (fun m t K => ∃ i v, i ≤ n ∧ m = n - i ∧ rd t 6 = .int .i64 i ∧ rd t 5 = v ∧ RgI H (preT ++ procsT (psF n l i)) v K) n ?_ ?_ ?_
 · exact ⟨0, .slice (some ⟨H.n, 0, none⟩) 10 10, Nat.zero_le _, by simp, by simp, by simp, Same.push _ _ _, H.n, 0, by simp [psF, procsT, preT], by omega, Nat.le_refl _, by simp [psF, procsT, preT, Heap.get_push, byteC]⟩
 · rintro m t K hk ⟨i, v, hin, rfl, g6, g5, hR⟩
   have ht : t.length = 63 := hk.1.trans (by simp [len_Bs])
   have hh := hk.all [0, 1] (by decide +kernel)
   simp at hh
   obtain ⟨u0, u1⟩ := hh
   clear hk
   obtain ⟨pl, pk⟩ := psF_ok hn l i hin
   have ptl := procsT_len (psF n l i) fun p hp => (pk p hp).2.1
   rcases Nat.lt_or_ge i n with hi | hi
   · have hnK := hR.1.n
     have w1 := wrap64 (97 + (i : Int)) (by omega) (by omega)
     have w2 := wrap_chr i (by omega)
     have cc := conv_chr K i
     have f1 := fun a b => bin_cat2 a b ⟨#[112, 114, 111, 99, 101, 100, 117, 114, 101, 32, 113]⟩ ⟨#[chr i]⟩ (by simp [ByteArray.size])
     have f2 := fun a b => bin_cat2 a b (⟨#[112, 114, 111, 99, 101, 100, 117, 114, 101, 32, 113]⟩ ++ ⟨#[chr i]⟩) ⟨#[40, 41, 59, 32, 98, 101, 103, 105, 110, 32, 115, 107, 105, 112]⟩ (by rw [ByteArray.size_append]; simp [ByteArray.size])
     have kp : Same (fun _ => False) K (K.push (.row true 0 1 [.int .u8 ((chr i).toNat : Int)])) := Same.push _ _ _
     have hsz : (⟨#[112, 114, 111, 99, 101, 100, 117, 114, 101, 32, 113]⟩ ++ ⟨#[chr i]⟩ ++ ⟨#[40, 41, 59, 32, 98, 101, 103, 105, 110, 32, 115, 107, 105, 112]⟩ : ByteArray).size = 26 := by rw [ByteArray.size_append, ByteArray.size_append]; rfl
     have htx : (⟨#[112, 114, 111, 99, 101, 100, 117, 114, 101, 32, 113]⟩ ++ ⟨#[chr i]⟩ ++ ⟨#[40, 41, 59, 32, 98, 101, 103, 105, 110, 32, 115, 107, 105, 112]⟩ : ByteArray).data.toList = headT i := by rw [app_list2, app_list2]; rfl
     obtain ⟨b, K1, e1, hR1⟩ := (hR.keep kp).app (⟨#[112, 114, 111, 99, 101, 100, 117, 114, 101, 32, 113]⟩ ++ ⟨#[chr i]⟩ ++ ⟨#[40, 41, 59, 32, 98, 101, 103, 105, 110, 32, 115, 107, 105, 112]⟩) (by rw [hsz]; decide) (by rw [hsz]; simp [preT]; omega)
     rw [hsz, htx] at hR1
     rw [hsz] at e1
     simp [ht, u0, g6, g5, hi, w1, f_conv, w2, cc, f1, f2, e1]
     refine loop_mid2 (fun t K => ∃ v, rd t 5 = v ∧ RgI H (preT ++ procsT (psF n l i) ++ headT i ++ callsT (ksF n l i n)) v K) (fun m t K => ∃ j v, j ≤ n ∧ m = n - j ∧ rd t 7 = .int .i64 j ∧ rd t 5 = v ∧ RgI H (preT ++ procsT (psF n l i) ++ headT i ++ callsT (ksF n l i j)) v K) n ?_ ?_ ?_
     · exact ⟨0, _, Nat.zero_le _, by simp, by simp [ht], rfl, by simpa [ksF, callsT, ht] using hR1⟩
     · rintro m2 t' K2 hk2 ⟨j, v2, hjn, rfl, h7, h5, hR2⟩
       have ht2 : t'.length = 63 := hk2.1.trans (by simp [ht])
       have hh2 := hk2.all [0, 1, 6] (by decide +kernel)
       simp [ht, u0, u1, g6] at hh2
       obtain ⟨q0, q1, q6⟩ := hh2
       clear hk2
       have kl := ksF_len n l i j
       have cl := callsT_len (ksF n l i j)
       have hnK2 := hR2.1.n
       rcases Nat.lt_or_ge j n with hj | hj
       · have hin : i * n ≤ 56 := by have := Nat.mul_le_mul (show i ≤ 7 by omega) hn; omega
         obtain ⟨q, hq⟩ : ∃ q, q = i * n := ⟨_, rfl⟩
         have hin' : (i : Int) * (n : Int) = (q : Int) := by rw [hq]; simp
         rw [← hq] at hin
         have w3 := wrap64 (q : Int) (by omega) (by omega)
         have w4 := wrap64 ((q : Int) + (j : Int)) (by omega) (by omega)
         have h0 : (0 : Int) ≤ (q : Int) + (j : Int) := by omega
         have ht0 : ((q : Int) + (j : Int)).toNat = q + j := by omega
         have w5 := wrap64 ((j : Int) + 1) (by omega) (by omega)
         have hbit : bit n l i j = decide (q + j < l.length ∧ (l.getD (q + j) 0).tmod 2 ≠ 0) := by rw [hq]; rfl
         have kS := ksF_succ n l i j
         have f_rem := fun ty a b z => bin_rem (P := Try.prog) ty a b .i64 z 2 (by omega)
         by_cases c1 : q + j < l.length
         · obtain ⟨r, off, own, tl, es, cs, cap, hlb, hrow, hoff, hcell⟩ := SL.at hl c1
           simp only [Value.slice.injEq] at hlb
           obtain ⟨rfl, -, rfl⟩ := hlb
           have hrow2 := hR2.1.at hrow (by simp) fun h => h
           have hgd : l.getD (q + j) 0 = l[q + j] := by rw [List.getD_eq_getElem?_getD, List.getElem?_eq_getElem c1]; rfl
           rw [hgd] at hbit
           generalize l[q + j] = x at *
           by_cases c2 : x.tmod 2 = 0
           · have hb : bit n l i j = false := by rw [hbit]; simp [c2]
             rw [hb, if_neg (by simp)] at kS
             simp [ht2, q0, q1, q6, h7, h5, hj, hin', w3, w4, h0, ht0, show (q : Int) + (j : Int) < l.length by omega, hrow2, hcell, hoff, f_rem, c2, w5]
             refine ⟨n - (j + 1), by omega, j + 1, by omega, rfl, by simp [ht2], ?_⟩
             rw [kS]
             simp only [List.append_assoc] at hR2 ⊢
             exact hR2
           · have hb : bit n l i j = true := by rw [hbit]; simp [c2, c1]
             rw [hb, if_pos rfl] at kS
             simp [ht2, q0, q1, q6, h7, h5, hj, hin', w3, w4, h0, ht0, show (q : Int) + (j : Int) < l.length by omega, hrow2, hcell, hoff, f_rem, c2, w5]
             refine region_free (by exact no_ring) (by exact la_ring) (by exact pre_ring) (by exact ok_ring) (by exact ne_ring) ?_
             obtain ⟨kR, id, tl2, rfl, htl, hid, hg⟩ := hR2
             have hidK := Heap.lt_of_get hg (by simp)
             obtain ⟨R2, hR2'⟩ : ∃ R2, R2 = K2.room 3 := ⟨_, rfl⟩
             have nR : R2.n = K2.n + 3 := by rw [hR2', room_n]
             have gR : ∀ j, R2.get j = K2.get j := fun j => by rw [hR2', room_get]
             obtain ⟨R3, hR3⟩ : ∃ R3, R3 = R2.set (K2.n + 1) (.row true 0 1 [.int .u8 ((chr j).toNat : Int)]) := ⟨_, rfl⟩
             have n3 : R3.n = K2.n + 3 := by rw [hR3]; exact nR
             have g3 : R3.get (K2.n + 1) = .row true 0 1 [.int .u8 ((chr j).toNat : Int)] := by rw [hR3, Heap.get_set_self _ _ (by omega)]
             have g3' : ∀ j, j ≠ K2.n + 1 → R3.get j = K2.get j := fun j hj => by rw [hR3, Heap.get_set _ _ _ (by omega), if_neg hj, gR]
             have hp3 : R2.pushAt (K2.n + 1) (.row true 0 1 [.int .u8 ((chr j).toNat : Int)]) = R3 := by rw [hR3, Heap.pushAt_lt (by omega)]
             have f3 := fun a b => bin_cat2 a b ⟨#[59, 32, 113]⟩ ⟨#[chr j]⟩ (by simp [ByteArray.size])
             have f4 := fun a b => bin_cat2 a b (⟨#[59, 32, 113]⟩ ++ ⟨#[chr j]⟩) ⟨#[40, 41]⟩ (by rw [ByteArray.size_append]; simp [ByteArray.size])
             have hsz3 : (⟨#[59, 32, 113]⟩ ++ ⟨#[chr j]⟩ ++ ⟨#[40, 41]⟩ : ByteArray).size = 6 := by rw [ByteArray.size_append, ByteArray.size_append]; rfl
             have htx3 : (⟨#[59, 32, 113]⟩ ++ ⟨#[chr j]⟩ ++ ⟨#[40, 41]⟩ : ByteArray).data.toList = callT j := by rw [app_list2, app_list2]; rfl
             have hout : (preT ++ procsT (psF n l i) ++ headT i ++ callsT (ksF n l i j)).length ≤ 90000 := by simp [preT, headT]; omega
             obtain ⟨R4, e4, g4, n4, o4⟩ := out_appAt (r := K2.n + 2) (s := ⟨#[59, 32, 113]⟩ ++ ⟨#[chr j]⟩ ++ ⟨#[40, 41]⟩) ((g3' id (by omega)).trans hg) htl (by omega) (by omega) (by omega) (by rw [hsz3]; decide) (by rw [hsz3]; decide)
             rw [hsz3] at e4
             rw [htx3] at g4
             have w7 := wrap64 (97 + (j : Int)) (by omega) (by omega)
             have w8 := wrap_chr j (by omega)
             have f_sl : ∀ rr HH, exSliceAt Try.prog 9 (.string ⟨#[59, 32, 113, 97]⟩) none (some (.int .i64 3)) rr HH = some (.string ⟨#[59, 32, 113]⟩, HH) := fun rr HH => by
              have : (⟨#[59, 32, 113, 97]⟩ : ByteArray).extract 0 3 = ⟨#[59, 32, 113]⟩ := by decide +kernel
              simp [exSliceAt, boundOf, this, ByteArray.size]
             have f_bld : exBuildSliceAt Try.prog 35 1 [(0, .int .u8 ((chr j).toNat : Int))] (K2.n + 1) R2 = some (.slice (some ⟨K2.n + 1, 0, none⟩) 1 1, R3) := by
              rw [← hp3]; rfl
             have f_str : exConvert Try.prog 35 9 (.slice (some ⟨K2.n + 1, 0, none⟩) 1 1) R3 = some (.string ⟨#[chr j]⟩, R3) := by
              simp [exConvert, g3, byteList]
             rw [← hR2']
             generalize hOut : preT ++ procsT (psF n l i) ++ headT i ++ callsT (ksF n l i j) = Out at *
             simp [ht2, h7, h5, f_sl, w7, f_conv, w8, f_bld, f_str, f3, f4, e4, -ByteArray.size_append]
             rw [if_pos ⟨.inr ⟨by omega, by omega⟩, ⟨by decide, .inr ⟨by omega, by omega⟩⟩, .inr (by omega)⟩]
             simp [ht2, h7, w5]
             refine ⟨n - (j + 1), by omega, j + 1, by omega, rfl, by simp [ht2], ?_⟩
             rw [kS]
             have hOut' : preT ++ (procsT (psF n l i) ++ (headT i ++ (callsT (ksF n l i j) ++ callT j))) = Out ++ callT j := by rw [← hOut]; simp only [List.append_assoc]
             rw [hOut']
             refine ⟨⟨by omega, fun j' hj' _ => ?_⟩, K2.n + 2, 1, by simp [callT], Nat.le_refl _, by omega, g4⟩
             rw [o4 j' (by omega) (by omega), g3' j' (by omega)]
             exact kR.get j' hj' (fun h => h)
         · have hb : bit n l i j = false := by rw [hbit]; simp [c1]
           rw [hb, if_neg (by simp)] at kS
           simp [ht2, q0, q1, q6, h7, h5, hj, hin', w3, w4, show ¬ ((q : Int) + (j : Int) < l.length) by omega, w5]
           refine ⟨n - (j + 1), by omega, j + 1, by omega, rfl, by simp [ht2], ?_⟩
           rw [kS]
           simp only [List.append_assoc] at hR2 ⊢
           exact hR2
       · obtain rfl : j = n := by omega
         simp [ht2, q0, q1, q6, h7, h5]
         simp only [List.append_assoc] at hR2
         exact hR2
     · rintro t' K2 hk2 ⟨v2, h5, hR2⟩
       have ht2 : t'.length = 63 := hk2.1.trans (by simp [ht])
       have hh2 := hk2.all [0, 1, 6] (by decide +kernel)
       simp [ht, u0, u1, g6] at hh2
       obtain ⟨q0, q1, q6⟩ := hh2
       have kl := ksF_len n l i n
       have cl := callsT_len (ksF n l i n)
       obtain ⟨b3, K3, e3, hR3⟩ := hR2.app ⟨#[32, 101, 110, 100, 59]⟩ (by decide) (by simp [preT, headT, ByteArray.size]; omega)
       obtain ⟨b0, n0, c0, e0⟩ : ∃ b n c, v2 = .slice b n c := by obtain ⟨_, id, tl, e, _⟩ := hR2; exact ⟨_, _, _, e⟩
       subst e0
       have w3 := wrap64 ((i : Int) + 1) (by omega) (by omega)
       simp [ht2, h5, e3, q6, w3]
       rw [List.length_append, List.length_append, List.length_append] at hR3
       refine ⟨n - (i + 1), by omega, i + 1, by omega, rfl, by simp [ht2], ?_⟩
       rw [psF_succ]
       simp only [List.append_assoc, Nat.add_assoc] at hR3 ⊢
       exact hR3
   · obtain rfl : i = n := by omega
     simp [ht, u0, g6, g5]
     exact hR
 · rintro t K hk ⟨v, g5, hR⟩
   have ht : t.length = 63 := hk.1.trans (by simp [len_Bs])
   obtain ⟨pl, pk⟩ := psF_ok hn l n (Nat.le_refl _)
   have ptl := procsT_len (psF n l n) fun p hp => (pk p hp).2.1
   obtain ⟨b, K', e, hR'⟩ := hR.app ⟨#[98, 101, 103, 105, 110, 32, 115, 107, 105, 112, 32, 101, 110, 100, 46]⟩ (by decide) (by simp [preT, ByteArray.size]; omega)
   obtain ⟨b0, n0, c0, e0⟩ : ∃ b n c, v = .slice b n c := by obtain ⟨_, id, tl, e, _⟩ := hR; exact ⟨_, _, _, e⟩
   subst e0
   simp [ht, g5, e]
   rw [List.append_assoc, List.length_append] at hR'
   exact hR'
end
end Go.Vm.Ring
namespace Go.Vm.Parse
open Go Go.Proofs
theorem kindP_lt {L : List Tk} {s : PS} (h : kindP L s ≠ 0) : s.p < L.length := by
 unfold kindP at h
 split at h
 · rename_i hi; exact isP_lt hi
 · split at h
   · rename_i hi; exact isP_lt hi
   · split at h
     · rename_i hi; exact isP_lt hi
     · split at h
       · rename_i hi; exact isP_lt hi
       · exact absurd rfl h
theorem branP_BLt (L : List Tk) : BLt branP L := fun n lv s b s' h => branP_lt h
def BinOp (o : Int) : Prop := (9 ≤ o ∧ o ≤ 13) ∨ (15 ≤ o ∧ o ≤ 22)
def most : Int := 9223372036854775807
def ExOK (kind num op : Int) (name : ByteArray) (n : Nat) : Prop :=
 (kind = 1 ∧ n = 0 ∧ op = 0 ∧ name = ByteArray.empty) ∨ (kind = 2 ∧ n = 0 ∧ op = 0 ∧ (num = 0 ∨ num = 1) ∧ name = ByteArray.empty) ∨ (kind = 3 ∧ n = 0 ∧ num = 0 ∧ op = 0) ∨ (kind = 4 ∧ n = 1 ∧ num = 0 ∧ op = 0) ∨
 (kind = 5 ∧ n = 1 ∧ num = 0 ∧ (op = 23 ∨ op = 14) ∧ name = ByteArray.empty) ∨ (kind = 6 ∧ n = 2 ∧ num = 0 ∧ BinOp op ∧ name = ByteArray.empty)
mutual
def WFx : Ex → Prop
 | .mk kind at_ num op name sub => ExOK kind num op name sub.length ∧ 0 ≤ num ∧ num ≤ most ∧ WFxs sub
def WFxs : List Ex → Prop
 | [] => True
 | e :: es => WFx e ∧ WFxs es
end
theorem WFxs.mem : ∀ {l : List Ex}, WFxs l → ∀ e ∈ l, WFx e
 | [], _, e, h => by cases h
 | a :: l, h, e, he => by
  simp only [WFxs] at h
  rcases List.mem_cons.1 he with rfl | he
  · exact h.1
  · exact WFxs.mem h.2 e he
theorem WFxs.of : ∀ {l : List Ex}, (∀ e ∈ l, WFx e) → WFxs l
 | [], _ => by simp only [WFxs]
 | a :: l, h => by simp only [WFxs]; exact ⟨h a (by simp), WFxs.of fun e he => h e (by simp [he])⟩
theorem WFxs.snoc {l : List Ex} {e : Ex} (h : WFxs l) (he : WFx e) : WFxs (l ++ [e]) :=
 WFxs.of fun x hx => by
  rcases List.mem_append.1 hx with hx | hx
  · exact h.mem x hx
  · rw [List.mem_singleton.1 hx]; exact he
theorem WFx.put {kind at_ num op : Int} {name : ByteArray} {sub : List Ex} (h : ExOK kind num op name sub.length) (h1 : 0 ≤ num) (h2 : num ≤ most) (h3 : WFxs sub) : WFx (.mk kind at_ num op name sub) := by
 simp only [WFx]; exact ⟨h, h1, h2, h3⟩
theorem WFxs.nil : WFxs [] := by simp only [WFxs]
theorem WFxs.one {e : Ex} (h : WFx e) : WFxs [e] := by simp only [WFxs]; exact ⟨h, trivial⟩
theorem WFxs.two {a b : Ex} (h : WFx a) (k : WFx b) : WFxs [a, b] := by simp only [WFxs]; exact ⟨h, k, trivial⟩
def NumsOK (L : List Tk) : Prop := ∀ t ∈ L, 0 ≤ t.num ∧ t.num ≤ most
theorem NumsOK.tok {L : List Tk} (h : NumsOK L) (p : Nat) : 0 ≤ (tok L p).num ∧ (tok L p).num ≤ most := by
 unfold Parse.tok
 rw [List.getD_eq_getElem?_getD]
 cases e : L[p]? with
 | none => exact ⟨by decide, by decide⟩
 | some t => exact h t (List.mem_of_getElem? e)
theorem numFrom_ok : ∀ {l : List UInt8} {n m : Int}, (∀ b ∈ l, digitB b = true) → 0 ≤ n → n ≤ most → numFrom l n = some m → 0 ≤ m ∧ m ≤ most
 | [], n, m, _, h0, h1, h => by cases h; exact ⟨h0, h1⟩
 | b :: bs, n, m, hd, h0, h1, h => by
  rw [numFrom] at h
  have hb := hd b (by simp)
  unfold digitB at hb
  simp only [decide_eq_true_eq] at hb
  split at h
  · cases h
  · rename_i hn
    refine numFrom_ok (fun c hc => hd c (by simp [hc])) (by omega) ?_ h
    unfold most
    omega
theorem span_digits (src : List UInt8) (p : UInt8 → Bool) {a : Nat} (ha : a < src.length) (h : p src[a] = true) : ∀ b ∈ (src.drop a).take (spanTo p src (a + 1) - a), p b = true := by
 intro b hb
 unfold spanTo at hb
 rw [List.drop_eq_getElem_cons ha, show a + 1 + ((src.drop (a + 1)).takeWhile p).length - a = ((src.drop (a + 1)).takeWhile p).length + 1 by omega, List.take_succ_cons] at hb
 rcases List.mem_cons.1 hb with rfl | hb
 · exact h
 · have e : (src.drop (a + 1)).take ((src.drop (a + 1)).takeWhile p).length = (src.drop (a + 1)).takeWhile p := by
    generalize src.drop (a + 1) = l
    induction l with
    | nil => rfl
    | cons x l ih =>
     rw [List.takeWhile_cons]
     split
     · simp only [List.length_cons, List.take_succ_cons, ih]
     · rfl
   rw [e] at hb
   generalize src.drop (a + 1) = l at hb
   induction l with
   | nil => cases hb
   | cons x l ih =>
    rw [List.takeWhile_cons] at hb
    split at hb
    · rcases List.mem_cons.1 hb with rfl | hb
      · assumption
      · exact ih hb
    · cases hb
theorem lexStep_num {src : List UInt8} {a to : Nat} (ha : a < src.length) {t : Tk} (h : lexStep src a src[a] = .more to (some t)) : 0 ≤ t.num ∧ t.num ≤ most := by
 have z : (0 : Int) ≤ 0 ∧ (0 : Int) ≤ most := ⟨by decide, by decide⟩
 unfold lexStep at h
 split at h
 · cases h
 split at h
 · split at h <;> cases h
 split at h
 · cases h; exact z
 split at h
 · split at h
   · cases h; exact z
   · split at h
     · cases h
     · cases h; exact z
 split at h
 · rename_i hd
   split at h
   · cases h
   · rename_i n hn
     cases h
     exact numFrom_ok (span_digits src digitB ha hd) (by decide) (by decide) hn
 split at h
 · cases h
 · cases h; exact z
theorem lexFrom_nums {src : List UInt8} : ∀ {n a : Nat} {out l : List Tk}, NumsOK out → lexFrom src n a out = some (.inl l) → NumsOK l
 | 0, _, _, _, _, h => by cases h
 | n + 1, a, out, l, ho, h => by
  rw [lexFrom] at h
  split at h
  · rename_i ha
    split at h
    · cases h
    · exact lexFrom_nums ho h
    · rename_i to t ht
      refine lexFrom_nums (fun x hx => ?_) h
      rcases List.mem_append.1 hx with hx | hx
      · exact ho x hx
      · rw [List.mem_singleton.1 hx]; exact lexStep_num ha ht
  · cases h
    intro x hx
    rcases List.mem_append.1 hx with hx | hx
    · exact ho x hx
    · rw [List.mem_singleton.1 hx]; exact ⟨Int.le_refl 0, by show (0 : Int) ≤ most; decide⟩
theorem opFrom_ok (k : Int) (x : ByteArray) : ∀ l : List (ByteArray × Int × Int), (∀ q ∈ l, BinOp q.2.2) → opFrom k x l ≠ 0 → BinOp (opFrom k x l)
 | [], _, h => absurd rfl h
 | (t, r, o) :: l, ho, h => by
  rw [opFrom] at h ⊢
  split
  · exact ho (t, r, o) (by simp)
  · rename_i hc
    rw [if_neg hc] at h
    exact opFrom_ok k x l (fun q hq => ho q (by simp [hq])) h
theorem opsL_ok : ∀ q ∈ opsL, BinOp q.2.2 := by
 have : opsL.all (fun q => decide ((9 ≤ q.2.2 ∧ q.2.2 ≤ 13) ∨ (15 ≤ q.2.2 ∧ q.2.2 ≤ 22))) = true := by decide +kernel
 intro q hq
 have h := List.all_eq_true.1 this q hq
 simp only [decide_eq_true_eq] at h
 exact h
theorem opP_ok {L : List Tk} {s : PS} {k : Int} (h : opP L s k ≠ 0) : BinOp (opP L s k) := by
 unfold opP at h ⊢
 split
 · rename_i hc; rw [if_pos hc] at h; exact opFrom_ok _ _ _ opsL_ok h
 · rename_i hc; rw [if_neg hc] at h; exact absurd rfl h
variable {L : List Tk}
def XC.arg : XC → Prop
 | .loop _ _ x => WFx x
 | _ => True
theorem x_wf (hN : NumsOK L) : ∀ n cmd s e s', xP L n cmd s = some (e, s') → s'.c = 0 → cmd.arg → WFx e := by
 intro n
 induction n with
 | zero => intro cmd s e s' h; cases h
 | succ n ih =>
  intro cmd s e s' h h0 ha
  have tk := hN.tok s.p
  have z : (0 : Int) ≤ 0 ∧ (0 : Int) ≤ most := ⟨by decide, by decide⟩
  cases cmd with
  | row k lv =>
   rw [xP] at h
   split at h
   · rename_i hc; cases h; exact absurd h0 hc
   · split at h
     · exact ih _ _ _ _ h h0 trivial
     · split at h
       · split at h
         · exact ih _ _ _ _ h h0 trivial
         · split at h
           · rename_i ho; cases h; exact absurd h0 ho
           · simp only [Option.map_eq_some_iff] at h
             obtain ⟨⟨e1, s1⟩, h1, h2⟩ := h
             cases h2
             exact WFx.put (Or.inr (Or.inr (Or.inr (Or.inr (Or.inl ⟨rfl, rfl, rfl, Or.inl rfl, rfl⟩))))) (z.1) (z.2) (WFxs.one (ih _ _ _ _ h1 h0 trivial))
       · simp only [Option.bind_eq_some_iff] at h
         obtain ⟨⟨e1, s1⟩, h1, h2⟩ := h
         exact ih _ _ _ _ h2 h0 (ih _ _ _ _ h1 ((x_le L _ _ _ _ _ h2).1.code h0) trivial)
  | loop k lv x =>
   rw [xP] at h
   split at h
   · cases h; exact ha
   · rename_i hop
     simp only [Option.bind_eq_some_iff] at h
     obtain ⟨⟨e1, s1⟩, h1, h2⟩ := h
     have w : s1.c = 0 → WFx (.mk 6 (tok L s.p).at_ 0 (opP L s k) ByteArray.empty [x, e1]) := fun h0 => by
      exact WFx.put (Or.inr (Or.inr (Or.inr (Or.inr (Or.inr ⟨rfl, rfl, rfl, opP_ok hop, rfl⟩))))) (z.1) (z.2) (WFxs.two ha (ih _ _ _ _ h1 h0 trivial))
     split at h2
     · cases h2; exact w h0
     · exact ih _ _ _ _ h2 h0 (w ((x_le L _ _ _ _ _ h2).1.code h0))
  | fact lv =>
   rw [xP] at h
   split at h
   · split at h
     · rename_i ho; cases h; exact absurd h0 ho
     · simp only [Option.map_eq_some_iff] at h
       obtain ⟨⟨e1, s1⟩, h1, h2⟩ := h
       cases h2
       exact WFx.put (Or.inr (Or.inr (Or.inr (Or.inr (Or.inl ⟨rfl, rfl, rfl, Or.inr rfl, rfl⟩))))) (z.1) (z.2) (WFxs.one (ih _ _ _ _ h1 h0 trivial))
   · split at h
     · cases h
       exact WFx.put (Or.inl ⟨rfl, rfl, rfl, rfl⟩) (tk.1) (tk.2) (WFxs.nil)
     · split at h
       · cases h
         exact WFx.put (Or.inr (Or.inl ⟨rfl, rfl, rfl, Or.inr rfl, rfl⟩)) (by decide) (by decide) (WFxs.nil)
       · split at h
         · cases h
           exact WFx.put (Or.inr (Or.inl ⟨rfl, rfl, rfl, Or.inl rfl, rfl⟩)) (by decide) (by decide) (WFxs.nil)
         · split at h
           · split at h
             · rename_i ho; cases h; exact absurd h0 ho
             · simp only [Option.map_eq_some_iff] at h
               obtain ⟨⟨e1, s1⟩, h1, h2⟩ := h
               cases h2
               exact ih _ _ _ _ h1 ((mustS_le _ _ _).code h0) trivial
           · split at h
             · split at h
               · cases h
                 exact WFx.put (Or.inr (Or.inr (Or.inl ⟨rfl, rfl, rfl, rfl⟩))) (z.1) (z.2) (WFxs.nil)
               · simp only [Option.map_eq_some_iff] at h
                 obtain ⟨⟨e1, s1⟩, h1, h2⟩ := h
                 cases h2
                 exact WFx.put (Or.inr (Or.inr (Or.inr (Or.inl ⟨rfl, rfl, rfl, rfl⟩)))) (z.1) (z.2) (WFxs.one (ih _ _ _ _ h1 h0 trivial))
             · cases h; exact absurd h0 (faultS_le L s (by omega)).2
  | index lv =>
   rw [xP] at h
   split at h
   · cases h; exact absurd h0 (faultS_le L s (by omega)).2
   · split at h
     · cases h; exact absurd h0 (faultS_le L _ (by omega)).2
     · simp only [Option.map_eq_some_iff] at h
       obtain ⟨⟨e1, s1⟩, h1, h2⟩ := h
       cases h2
       exact ih _ _ _ _ h1 ((mustS_le _ _ _).code h0) trivial
def ItmOK (i : Itm) : Prop := 0 ≤ i.n ∧ i.n ≤ most
def BraOK (b : Bra) : Prop := WFxs b.args ∧ ∀ i ∈ b.claims, ItmOK i
structure StOK (kind : Int) (ne nbody nels nbr nitems : Nat) : Prop where
 lo : 1 ≤ kind
 hi : kind ≤ 15
 e : (kind = 1 ∨ kind = 7 ∨ kind = 8 ∨ kind = 9 ∨ kind = 11 ∨ kind = 12 ∨ kind = 13 → ne = 0) ∧ (kind = 2 ∨ kind = 4 ∨ kind = 5 ∨ kind = 14 ∨ kind = 15 → ne = 1) ∧ (kind = 3 → ne = 2) ∧ (kind = 10 → ne ≤ 1)
 body : kind ≠ 4 → kind ≠ 5 → kind ≠ 10 → nbody = 0
 els : kind ≠ 4 → nels = 0
 br : kind ≠ 7 → nbr = 0
 items : kind ≠ 11 → kind ≠ 12 → nitems = 0
mutual
def WFs : Stm → Prop
 | .mk kind at_ name e body els br items => StOK kind e.length body.length els.length br.length items.length ∧ WFxs e ∧ WFss body ∧ WFss els ∧ (∀ b ∈ br, BraOK b) ∧ ∀ i ∈ items, ItmOK i
def WFss : List Stm → Prop
 | [] => True
 | s :: l => WFs s ∧ WFss l
end
theorem WFss.mem : ∀ {l : List Stm}, WFss l → ∀ e ∈ l, WFs e
 | [], _, e, h => by cases h
 | a :: l, h, e, he => by
  simp only [WFss] at h
  rcases List.mem_cons.1 he with rfl | he
  · exact h.1
  · exact WFss.mem h.2 e he
theorem WFss.of : ∀ {l : List Stm}, (∀ e ∈ l, WFs e) → WFss l
 | [], _ => by simp only [WFss]
 | a :: l, h => by simp only [WFss]; exact ⟨h a (by simp), WFss.of fun e he => h e (by simp [he])⟩
theorem WFss.snoc {l : List Stm} {e : Stm} (h : WFss l) (he : WFs e) : WFss (l ++ [e]) :=
 WFss.of fun x hx => by
  rcases List.mem_append.1 hx with hx | hx
  · exact h.mem x hx
  · rw [List.mem_singleton.1 hx]; exact he
theorem numP_ok (hN : NumsOK L) (s : PS) : 0 ≤ (numP L s).1 ∧ (numP L s).1 ≤ most := by
 unfold numP
 split
 · exact hN.tok _
 · exact ⟨by decide, by decide⟩
theorem all_snoc {α : Type} {Q : α → Prop} {l : List α} {a : α} (h : ∀ x ∈ l, Q x) (ha : Q a) : ∀ x ∈ l ++ [a], Q x := fun x hx => by
 rcases List.mem_append.1 hx with hx | hx
 · exact h x hx
 · rw [List.mem_singleton.1 hx]; exact ha
theorem itemsL_wf (hN : NumsOK L) : ∀ {n : Nat} {acc : List Itm} {again : Bool} {s s' : PS} {l : List Itm}, itemsL L n acc again s = some (l, s') → (∀ i ∈ acc, ItmOK i) → ∀ i ∈ l, ItmOK i
 | 0, _, _, _, _, _, h, _ => by cases h
 | n + 1, acc, again, s, s', l, h, ha => by
  rw [itemsL] at h
  split at h
  · exact itemsL_wf hN h (all_snoc ha (numP_ok hN _))
  · cases h; exact ha
theorem argsL_wf (hN : NumsOK L) {lv : Int} : ∀ {n : Nat} {acc : List Ex} {again : Bool} {s s' : PS} {l : List Ex}, argsL L lv n acc again s = some (l, s') → s'.c = 0 → WFxs acc → WFxs l
 | 0, _, _, _, _, _, h, _, _ => by cases h
 | n + 1, acc, again, s, s', l, h, h0, ha => by
  rw [argsL] at h
  split at h
  · simp only [Option.bind_eq_some_iff] at h
    obtain ⟨⟨x, s1⟩, h1, h2⟩ := h
    exact argsL_wf hN h2 h0 (ha.snoc (x_wf hN _ _ _ _ _ h1 ((takeS_le _ _ _).code ((argsL_le h2).code h0)) trivial))
  · cases h; exact ha
theorem argsP_wf (hN : NumsOK L) {n : Nat} {lv : Int} {s s' : PS} {l : List Ex} (h : argsP L n lv s = some (l, s')) (h0 : s'.c = 0) : WFxs l := by
 unfold argsP at h
 split at h
 · cases h; simp only [WFxs]
 · simp only [Option.map_eq_some_iff] at h
   obtain ⟨⟨x, s1⟩, h1, h2⟩ := h
   cases h2
   exact argsL_wf hN h1 ((mustS_le _ _ _).code h0) (by simp only [WFxs])
theorem branP_wf (hN : NumsOK L) {n : Nat} {lv : Int} {s s' : PS} {b : Bra} (h : branP L n lv s = some (b, s')) (h0 : s'.c = 0) : BraOK b := by
 unfold branP at h
 simp only [Option.bind_eq_some_iff] at h
 obtain ⟨⟨a, s1⟩, h1, h2⟩ := h
 split at h2
 · simp only [Option.map_eq_some_iff] at h2
   obtain ⟨⟨x, s2⟩, h3, h4⟩ := h2
   cases h4
   exact ⟨argsP_wf hN h1 ((PS.le_on _).code ((itemsL_le h3).code h0)), itemsL_wf hN h3 (fun i hi => by cases hi)⟩
 · cases h2
   exact ⟨argsP_wf hN h1 h0, fun i hi => by cases hi⟩
theorem branL_wf (hN : NumsOK L) {lv : Int} : ∀ {n : Nat} {acc : List Bra} {again : Bool} {s s' : PS} {l : List Bra}, branL branP L lv n acc again s = some (l, s') → s'.c = 0 → (∀ b ∈ acc, BraOK b) → ∀ b ∈ l, BraOK b
 | 0, _, _, _, _, _, h, _, _ => by cases h
 | n + 1, acc, again, s, s', l, h, h0, ha => by
  rw [branL] at h
  split at h
  · simp only [Option.bind_eq_some_iff] at h
    obtain ⟨⟨x, s1⟩, h1, h2⟩ := h
    exact branL_wf hN h2 h0 (all_snoc ha (branP_wf hN h1 ((takeS_le _ _ _).code ((branL_le (branP_BLt L) h2).code h0))))
  · cases h; exact ha
theorem nil_all {α : Type} {Q : α → Prop} : ∀ x ∈ ([] : List α), Q x := fun x h => by cases h
theorem WFs.put {kind at_ : Int} {name : ByteArray} {e : List Ex} {body els : List Stm} {br : List Bra} {items : List Itm} (h : StOK kind e.length body.length els.length br.length items.length) (h1 : WFxs e) (h2 : WFss body := by simp only [WFss]) (h3 : WFss els := by simp only [WFss])
  (h4 : ∀ b ∈ br, BraOK b := by exact nil_all) (h5 : ∀ i ∈ items, ItmOK i := by exact nil_all) : WFs (.mk kind at_ name e body els br items) := by
 simp only [WFs]; exact ⟨h, h1, h2, h3, h4, h5⟩
theorem namedP_wf (hN : NumsOK L) {n : Nat} {lv : Int} {s s' : PS} {x : Stm} (h : namedP L n lv s = some (x, s')) (h0 : s'.c = 0) : WFs x := by
 unfold namedP at h
 split at h
 · simp only [Option.map_eq_some_iff] at h
   obtain ⟨⟨x, s1⟩, h1, h2⟩ := h
   cases h2
   exact WFs.put ⟨by omega, by omega, by simp, by simp, by simp, by simp, by simp⟩ (argsP_wf hN h1 h0)
 · split at h
   · simp only [Option.bind_eq_some_iff, Option.map_eq_some_iff] at h
     obtain ⟨⟨i, s1⟩, h1, ⟨x, s2⟩, h2, h3⟩ := h
     cases h3
     exact WFs.put ⟨by omega, by omega, by simp, by simp, by simp, by simp, by simp⟩ (WFxs.two (x_wf hN _ _ _ _ _ h1 ((mustS_le _ _ _).code ((x_lt h2).le.code h0)) trivial) (x_wf hN _ _ _ _ _ h2 h0 trivial))
   · simp only [Option.map_eq_some_iff] at h
     obtain ⟨⟨x, s2⟩, h2, h3⟩ := h
     cases h3
     exact WFs.put ⟨by omega, by omega, by simp, by simp, by simp, by simp, by simp⟩ (WFxs.one (x_wf hN _ _ _ _ _ h2 h0 trivial))
theorem st_wf (hN : NumsOK L) : ∀ n, (∀ lv s x s', stmtP branP L n lv s = some (x, s') → s'.c = 0 → WFs x) ∧ (∀ lv acc again s l s', stmtsL branP L n lv acc again s = some (l, s') → s'.c = 0 → WFss acc → WFss l) ∧ (∀ o lv s l s', blockP branP L n o lv s = some (l, s') → s'.c = 0 → WFss l) := by
 have hB := branP_BLt L
 intro n
 induction n with
 | zero => exact ⟨fun _ _ _ _ h => (by rw [stmtP] at h; cases h), fun _ _ _ _ _ _ h => (by rw [stmtsL] at h; cases h), fun _ _ _ _ _ h => (by rw [blockP] at h; cases h)⟩
 | succ n ih =>
  have mc := fun (s : PS) (x : ByteArray) => (mustS_le L s x).code
  have nx : WFxs [] := by simp only [WFxs]
  refine ⟨?_, ?_, ?_⟩
  · intro lv s x s' h h0
    rw [stmtP] at h
    by_cases c1 : (tok L s.p).kind = 1
    · rw [if_pos c1] at h; exact namedP_wf hN h h0
    rw [if_neg c1] at h
    by_cases c2 : isP L s tSkip = true
    · rw [if_pos c2] at h; cases h
      exact WFs.put ⟨by omega, by omega, by simp, by simp, by simp, by simp, by simp⟩ nx
    rw [if_neg c2] at h
    by_cases c3 : isP L s tIf = true
    · rw [if_pos c3] at h
      simp only [Option.bind_eq_some_iff] at h
      obtain ⟨⟨x1, s1⟩, h1, ⟨b1, s2⟩, h2, h3⟩ := h
      have fin : ∀ (c : List Stm), s2.c = 0 → WFss c → WFs (.mk 4 (tok L s.p).at_ ByteArray.empty [x1] b1 c [] []) := fun c hc hw =>
       WFs.put ⟨by omega, by omega, by simp, by simp, by simp, by simp, by simp⟩ (WFxs.one (x_wf hN _ _ _ _ _ h1 (((st_le hB n).2.2 _ _ _ _ _ h2).code hc) trivial)) (ih.2.2 _ _ _ _ _ h2 hc) hw
      split at h3
      · simp only [Option.map_eq_some_iff] at h3
        obtain ⟨⟨c1, s3⟩, h3, h4⟩ := h3
        cases h4
        have k := mc _ _ h0
        exact fin _ (((st_le hB n).2.2 _ _ _ _ _ h3).code k) (ih.2.2 _ _ _ _ _ h3 k)
      · cases h3; exact fin _ (mc _ _ h0) (by simp only [WFss])
    rw [if_neg c3] at h
    by_cases c4 : isP L s tWhile = true
    · rw [if_pos c4] at h
      simp only [Option.bind_eq_some_iff, Option.map_eq_some_iff] at h
      obtain ⟨⟨x1, s1⟩, h1, ⟨b1, s2⟩, h2, h3⟩ := h
      cases h3
      have k := mc _ _ h0
      exact WFs.put ⟨by omega, by omega, by simp, by simp, by simp, by simp, by simp⟩ (WFxs.one (x_wf hN _ _ _ _ _ h1 (((st_le hB n).2.2 _ _ _ _ _ h2).code k) trivial)) (ih.2.2 _ _ _ _ _ h2 k)
    rw [if_neg c4] at h
    by_cases c5 : isP L s tCobegin = true
    · rw [if_pos c5] at h
      simp only [Option.map_eq_some_iff] at h
      obtain ⟨⟨b1, s2⟩, h2, h3⟩ := h
      cases h3
      exact WFs.put ⟨by omega, by omega, by simp, by simp, by simp, by simp, by simp⟩ nx (h4 := branL_wf hN h2 (mc _ _ h0) nil_all)
    rw [if_neg c5] at h
    by_cases c6 : isP L s (b1 80) = true ∨ isP L s (b1 86) = true
    · rw [if_pos c6] at h
      cases h
      refine WFs.put ?_ nx
      split
      · exact ⟨by omega, by omega, by simp, by simp, by simp, by simp, by simp⟩
      · exact ⟨by omega, by omega, by simp, by simp, by simp, by simp, by simp⟩
    rw [if_neg c6] at h
    by_cases c7 : isP L s tRegion = true
    · rw [if_pos c7] at h
      split at h
      · simp only [Option.bind_eq_some_iff, Option.map_eq_some_iff] at h
        obtain ⟨⟨x1, s1⟩, h1, ⟨b1, s2⟩, h2, h3⟩ := h
        cases h3
        have k := mc _ _ h0
        exact WFs.put ⟨by omega, by omega, by simp, by simp, by simp, by simp, by simp⟩ (WFxs.one (x_wf hN _ _ _ _ _ h1 (((st_le hB n).2.2 _ _ _ _ _ h2).code k) trivial)) (ih.2.2 _ _ _ _ _ h2 k)
      · simp only [Option.map_eq_some_iff] at h
        obtain ⟨⟨b1, s2⟩, h2, h3⟩ := h
        cases h3
        exact WFs.put ⟨by omega, by omega, by simp, by simp, by simp, by simp, by simp⟩ nx (ih.2.2 _ _ _ _ _ h2 (mc _ _ h0))
    rw [if_neg c7] at h
    by_cases c8 : isP L s tRequest = true
    · rw [if_pos c8] at h
      simp only [Option.map_eq_some_iff] at h
      obtain ⟨⟨b1, s2⟩, h2, h3⟩ := h
      cases h3
      exact WFs.put ⟨by omega, by omega, by simp, by simp, by simp, by simp, by simp⟩ nx (h5 := itemsL_wf hN h2 nil_all)
    rw [if_neg c8] at h
    by_cases c9 : isP L s tRelease = true
    · rw [if_pos c9] at h
      simp only [Option.map_eq_some_iff] at h
      obtain ⟨⟨b1, s2⟩, h2, h3⟩ := h
      cases h3
      exact WFs.put ⟨by omega, by omega, by simp, by simp, by simp, by simp, by simp⟩ nx (h5 := itemsL_wf hN h2 nil_all)
    rw [if_neg c9] at h
    by_cases c10 : isP L s tRead = true
    · rw [if_pos c10] at h
      split at h
      · simp only [Option.map_eq_some_iff] at h
        obtain ⟨⟨b1, s2⟩, h2, h3⟩ := h
        cases h3
        exact WFs.put ⟨by omega, by omega, by simp, by simp, by simp, by simp, by simp⟩ (WFxs.one (x_wf hN _ _ _ _ _ h2 h0 trivial))
      · cases h; exact WFs.put ⟨by omega, by omega, by simp, by simp, by simp, by simp, by simp⟩ nx
    rw [if_neg c10] at h
    by_cases c11 : isP L s tWrite = true
    · rw [if_pos c11] at h
      simp only [Option.map_eq_some_iff] at h
      obtain ⟨⟨b1, s2⟩, h2, h3⟩ := h
      cases h3
      exact WFs.put ⟨by omega, by omega, by simp, by simp, by simp, by simp, by simp⟩ (WFxs.one (x_wf hN _ _ _ _ _ h2 h0 trivial))
    rw [if_neg c11] at h
    cases h; exact absurd h0 (faultS_le L s (by omega)).2
  · intro lv acc again s l s' h h0 ha
    rw [stmtsL] at h
    split at h
    · simp only [Option.bind_eq_some_iff] at h
      obtain ⟨⟨x, s1⟩, h1, h2⟩ := h
      exact ih.2.1 _ _ _ _ _ _ h2 h0 (ha.snoc (ih.1 _ _ _ _ h1 ((takeS_le _ _ _).code (((st_le hB n).2.1 _ _ _ _ _ _ h2).code h0))))
    · cases h; exact ha
  · intro o lv s l s' h h0
    rw [blockP] at h
    split at h
    · cases h; simp only [WFss]
    · split at h
      · cases h; simp only [WFss]
      · exact ih.2.1 _ _ _ _ _ _ h h0 (by simp only [WFss])
end Go.Vm.Parse
namespace Go.Vm.Parse
open Go Go.Proofs
mutual
def szX : Ex → Nat
 | .mk _ _ _ _ _ sub => 1 + szXs sub
def szXs : List Ex → Nat
 | [] => 0
 | e :: es => szX e + szXs es
end
def szB (b : Bra) : Nat := 1 + szXs b.args + b.claims.length
def szBs : List Bra → Nat
 | [] => 0
 | b :: l => szB b + szBs l
mutual
def szS : Stm → Nat
 | .mk _ _ _ e body els br items => 1 + szXs e + szSs body + szSs els + szBs br + items.length
def szSs : List Stm → Nat
 | [] => 0
 | s :: l => szS s + szSs l
end
theorem szXs_snoc (e : Ex) : ∀ l : List Ex, szXs (l ++ [e]) = szXs l + szX e
 | [] => by simp [szXs]
 | a :: l => by simp only [List.cons_append, szXs, szXs_snoc e l]; omega
theorem szBs_snoc (e : Bra) : ∀ l : List Bra, szBs (l ++ [e]) = szBs l + szB e
 | [] => by simp [szBs]
 | a :: l => by simp only [List.cons_append, szBs, szBs_snoc e l]; omega
theorem szSs_snoc (e : Stm) : ∀ l : List Stm, szSs (l ++ [e]) = szSs l + szS e
 | [] => by simp [szSs]
 | a :: l => by simp only [List.cons_append, szSs, szSs_snoc e l]; omega
theorem szX_pos (e : Ex) : 1 ≤ szX e := by cases e; simp only [szX]; omega
theorem szS_pos (e : Stm) : 1 ≤ szS e := by cases e; simp only [szS]; omega
theorem szXs_len : ∀ l : List Ex, l.length ≤ szXs l
 | [] => Nat.le_refl _
 | a :: l => by have := szXs_len l; have := szX_pos a; simp only [List.length_cons, szXs]; omega
theorem szSs_len : ∀ l : List Stm, l.length ≤ szSs l
 | [] => Nat.le_refl _
 | a :: l => by have := szSs_len l; have := szS_pos a; simp only [List.length_cons, szSs]; omega
structure Ate (L : List Tk) (s s' : PS) (k : Nat) : Prop where
 place : s'.p ≤ max s.p L.length
 code : s'.c = 0 → s.c = 0
 size : s'.c = 0 → k + s.p ≤ s'.p
variable {L : List Tk}
theorem Ate.refl (s : PS) : Ate L s s 0 := ⟨by omega, fun h => h, fun _ => by omega⟩
theorem Ate.trans {a b c : PS} {j k : Nat} (h : Ate L a b j) (h' : Ate L b c k) : Ate L a c (j + k) :=
 ⟨by have := h.place; have := h'.place; omega, fun e => h.code (h'.code e), fun e => by have := h'.size e; have := h.size (h'.code e); omega⟩
theorem Ate.weak {s s' : PS} {j k : Nat} (h : Ate L s s' k) (hj : j ≤ k) : Ate L s s' j := ⟨h.place, h.code, fun e => by have := h.size e; omega⟩
theorem Ate.bad {s s' : PS} (k : Nat) (h : s'.c ≠ 0) (hp : s'.p ≤ max s.p L.length) : Ate L s s' k := ⟨hp, fun e => absurd e h, fun e => absurd e h⟩
theorem ate_on {s : PS} (h : s.p < L.length) : Ate L s s.on 1 := ⟨by show s.p + 1 ≤ _; omega, fun e => e, fun _ => by show 1 + s.p ≤ s.p + 1; omega⟩
theorem ate_fault (s : PS) {c : Int} (hc : c ≠ 0) (k : Nat) : Ate L s (faultS L s c) k := Ate.bad k (faultS_le L s hc).2 (by unfold faultS; split <;> (first | omega | (dsimp only; omega)))
theorem ate_must (s : PS) (x : ByteArray) : Ate L s (mustS L s x) 1 := by
 unfold mustS
 split
 · rename_i h; exact ate_on (isP_lt h)
 · exact ate_fault s (by omega) 1
theorem ate_take (s : PS) (x : ByteArray) : Ate L s (takeS L s x) 0 := by
 unfold takeS
 split
 · rename_i h; exact (ate_on (isP_lt h)).weak (by omega)
 · exact Ate.refl s
theorem ate_opens (s : PS) (lv : Int) : Ate L s (opensS L s lv) 0 := by
 unfold opensS
 split
 · exact ate_fault s (by omega) 0
 · exact Ate.refl s
theorem ate_name (s : PS) : Ate L s (nameS L s) 1 := by
 unfold nameS
 split
 · rename_i h; exact ate_on (tok_ge_kind (by omega))
 · exact ate_fault s (by omega) 1
theorem ate_num (s : PS) : Ate L s (numS L s) 1 := by
 unfold numS
 split
 · rename_i h; exact ate_on (tok_ge_kind (by omega))
 · exact ate_fault s (by omega) 1
theorem opens_place (s : PS) (lv : Int) : (opensS L s lv).p = s.p := by
 unfold opensS
 split
 · unfold faultS; split <;> rfl
 · rfl
def XC.sz : XC → Nat
 | .loop _ _ x => szX x
 | _ => 0
theorem x_ate : ∀ n cmd s e s', xP L n cmd s = some (e, s') → s'.p ≤ max s.p L.length ∧ (s'.c = 0 → szX e + s.p ≤ cmd.sz + s'.p) := by
 intro n
 induction n with
 | zero => intro cmd s e s' h; cases h
 | succ n ih =>
  intro cmd s e s' h
  have l0 : ∀ {a b c d y}, szX (.mk a b c d y []) = 1 := by simp [szX, szXs]
  have l1 : ∀ {a b c d y} {x : Ex}, szX (.mk a b c d y [x]) = 1 + szX x := by intros; simp [szX, szXs]
  have l2 : ∀ {a b c d y} {x x2 : Ex}, szX (.mk a b c d y [x, x2]) = 1 + szX x + szX x2 := by intros; simp [szX, szXs]; omega
  have on : ∀ {x : PS}, x.on.p = x.p + 1 := fun {x} => rfl
  have tp : (tok L s.p).kind ≠ 5 → s.p < L.length := tok_ge_kind
  cases cmd with
  | row k lv =>
   simp only [XC.sz]
   rw [xP] at h
   split at h
   · rename_i hc; cases h; exact ⟨by omega, fun h => absurd h hc⟩
   · split at h
     · exact ih _ _ _ _ h
     · split at h
       · split at h
         · exact ih _ _ _ _ h
         · rename_i hb
           have hs := isP_lt (L := L) (s := s) (x := tNot) (by simpa using hb)
           split at h
           · rename_i ho; cases h; exact ⟨by rw [opens_place]; omega, fun h => absurd h ho⟩
           · simp only [Option.map_eq_some_iff] at h
             obtain ⟨⟨e1, s1⟩, h1, h2⟩ := h
             cases h2
             have := ih _ _ _ _ h1
             simp only [XC.sz, on, opens_place, l1] at this ⊢
             exact ⟨by omega, fun h => by have := this.2 h; omega⟩
       · simp only [Option.bind_eq_some_iff] at h
         obtain ⟨⟨e1, s1⟩, h1, h2⟩ := h
         have a := ih _ _ _ _ h1
         have b := ih _ _ _ _ h2
         have c := (x_le L _ _ _ _ _ h2).1.code
         simp only [XC.sz] at a b
         exact ⟨by omega, fun h => by have := b.2 h; have := a.2 (c h); omega⟩
  | loop k lv x =>
   simp only [XC.sz]
   rw [xP] at h
   split at h
   · cases h; exact ⟨by omega, fun _ => Nat.le_refl _⟩
   · rename_i hop
     have hs : s.p < L.length := tp (fun h5 => hop (by unfold opP; rw [if_neg (by omega)]))
     simp only [Option.bind_eq_some_iff] at h
     obtain ⟨⟨e1, s1⟩, h1, h2⟩ := h
     have a := ih _ _ _ _ h1
     simp only [XC.sz, on] at a
     split at h2
     · cases h2; simp only [l2]; exact ⟨by omega, fun h => by have := a.2 h; omega⟩
     · have b := ih _ _ _ _ h2
       have c := (x_le L _ _ _ _ _ h2).1.code
       simp only [XC.sz, l2] at b
       exact ⟨by omega, fun h => by have := b.2 h; have := a.2 (c h); omega⟩
  | fact lv =>
   simp only [XC.sz]
   rw [xP] at h
   split at h
   · rename_i hb
     have hs := isP_lt hb
     split at h
     · rename_i ho; cases h; exact ⟨by rw [opens_place]; omega, fun h => absurd h ho⟩
     · simp only [Option.map_eq_some_iff] at h
       obtain ⟨⟨e1, s1⟩, h1, h2⟩ := h
       cases h2
       have := ih _ _ _ _ h1
       simp only [XC.sz, on, opens_place, l1] at this ⊢
       exact ⟨by omega, fun h => by have := this.2 h; omega⟩
   · split at h
     · rename_i hk
       have hs := tp (by omega)
       cases h; simp only [l0, on]; exact ⟨by omega, fun _ => by omega⟩
     · split at h
       · rename_i hb
         have hs := isP_lt hb
         cases h; simp only [l0, on]; exact ⟨by omega, fun _ => by omega⟩
       · split at h
         · rename_i hb
           have hs := isP_lt hb
           cases h; simp only [l0, on]; exact ⟨by omega, fun _ => by omega⟩
         · split at h
           · rename_i hb
             have hs := isP_lt hb
             split at h
             · rename_i ho; cases h; exact ⟨by rw [opens_place]; omega, fun h => absurd h ho⟩
             · simp only [Option.map_eq_some_iff] at h
               obtain ⟨⟨e1, s1⟩, h1, h2⟩ := h
               cases h2
               have a := ih _ _ _ _ h1
               have b := ate_must (L := L) s1 (b1 41)
               have b1 := b.place
               simp only [XC.sz, on, opens_place] at a ⊢
               exact ⟨by omega, fun h => by have := a.2 (b.code h); have := b.size h; omega⟩
           · split at h
             · rename_i hk
               have hs := tp (by omega)
               split at h
               · cases h; simp only [l0, on]; exact ⟨by omega, fun _ => by omega⟩
               · simp only [Option.map_eq_some_iff] at h
                 obtain ⟨⟨e1, s1⟩, h1, h2⟩ := h
                 cases h2
                 have a := ih _ _ _ _ h1
                 simp only [XC.sz, on, l1] at a ⊢
                 exact ⟨by omega, fun h => by have := a.2 h; omega⟩
             · cases h
               have b := ate_fault (L := L) s (c := 14) (by omega) (szX .zero)
               exact ⟨b.place, fun h => by have := b.size h; omega⟩
  | index lv =>
   simp only [XC.sz]
   rw [xP] at h
   split at h
   · cases h
     have b := ate_fault (L := L) s (c := 14) (by omega) (szX .zero)
     exact ⟨b.place, fun h => by have := b.size h; omega⟩
   · rename_i hb
     have hs := isP_lt (L := L) (s := s) (x := b1 91) (by simpa using hb)
     split at h
     · cases h
       have b := ate_fault (L := L) (opensS L s (lv + 1)) (c := 14) (by omega) (szX .zero)
       have b1 := b.place
       rw [opens_place] at b1
       exact ⟨b1, fun h => absurd h (faultS_le L _ (by omega)).2⟩
     · simp only [Option.map_eq_some_iff] at h
       obtain ⟨⟨e1, s1⟩, h1, h2⟩ := h
       cases h2
       have a := ih _ _ _ _ h1
       have b := ate_must (L := L) s1 (b1 93)
       have b1 := b.place
       simp only [XC.sz, on, opens_place] at a ⊢
       exact ⟨by omega, fun h => by have := a.2 (b.code h); have := b.size h; omega⟩
theorem ate_x {n : Nat} {cmd : XC} {s s' : PS} {e : Ex} (h : xP L n cmd s = some (e, s')) (hc : cmd.sz = 0 := by rfl) : Ate L s s' (szX e) :=
 ⟨(x_ate _ _ _ _ _ h).1, (x_le L _ _ _ _ _ h).1.code, fun h0 => by have := (x_ate _ _ _ _ _ h).2 h0; omega⟩
structure Ate2 (L : List Tk) (s s' : PS) (j k : Nat) : Prop where
 place : s'.p ≤ max s.p L.length
 code : s'.c = 0 → s.c = 0
 size : s'.c = 0 → k + s.p ≤ j + s'.p
theorem Ate2.refl (s : PS) (k : Nat) : Ate2 L s s k k := ⟨by omega, fun h => h, fun _ => by omega⟩
theorem Ate.then2 {a b c : PS} {i j k : Nat} (h : Ate L a b i) (h' : Ate2 L b c (j + i) k) : Ate2 L a c j k :=
 ⟨by have := h.place; have := h'.place; omega, fun e => h.code (h'.code e), fun e => by have := h'.size e; have := h.size (h'.code e); omega⟩
theorem Ate2.one {a b : PS} {k : Nat} (h : Ate2 L a b 0 k) : Ate L a b k := ⟨h.place, h.code, fun e => by have := h.size e; omega⟩
theorem ate_items : ∀ {n : Nat} {acc : List Itm} {again : Bool} {s s' : PS} {l : List Itm}, itemsL L n acc again s = some (l, s') → Ate2 L s s' acc.length l.length
 | 0, _, _, _, _, _, h => by cases h
 | n + 1, acc, again, s, s', l, h => by
  rw [itemsL] at h
  split at h
  · have a := ate_items h
    simp only [List.length_append, List.length_cons, List.length_nil] at a
    exact ((((ate_name s).trans (ate_num _)).trans (ate_take _ _)).weak (by omega)).then2 a
  · cases h; exact Ate2.refl _ _
theorem ate_args {lv : Int} : ∀ {n : Nat} {acc : List Ex} {again : Bool} {s s' : PS} {l : List Ex}, argsL L lv n acc again s = some (l, s') → Ate2 L s s' (szXs acc) (szXs l)
 | 0, _, _, _, _, _, h => by cases h
 | n + 1, acc, again, s, s', l, h => by
  rw [argsL] at h
  split at h
  · simp only [Option.bind_eq_some_iff] at h
    obtain ⟨⟨x, s1⟩, h1, h2⟩ := h
    have a := ate_args h2
    rw [szXs_snoc] at a
    exact (((ate_x h1).trans (ate_take _ _)).weak (by dsimp only; omega)).then2 a
  · cases h; exact Ate2.refl _ _
theorem isP_must {s : PS} {x : ByteArray} (h : isP L s x = true) : Ate L s s.on 1 := ate_on (isP_lt h)
theorem ate_argsP {n : Nat} {lv : Int} {s s' : PS} {l : List Ex} (h : argsP L n lv s = some (l, s')) : Ate L s s' (szXs l) := by
 unfold argsP at h
 split at h
 · rename_i hb
   cases h
   exact ((ate_must s (b1 40)).trans (isP_must hb)).weak (by simp [szXs])
 · simp only [Option.map_eq_some_iff] at h
   obtain ⟨⟨x, s1⟩, h1, h2⟩ := h
   cases h2
   have a := (ate_args h1).one
   exact (((ate_must s (b1 40)).trans a).trans (ate_must _ _)).weak (by dsimp only; omega)
theorem ate_branP {n : Nat} {lv : Int} {s s' : PS} {b : Bra} (h : branP L n lv s = some (b, s')) : Ate L s s' (szB b) := by
 unfold branP at h
 simp only [Option.bind_eq_some_iff] at h
 obtain ⟨⟨a, s1⟩, h1, h2⟩ := h
 split at h2
 · rename_i hb
   simp only [Option.map_eq_some_iff] at h2
   obtain ⟨⟨x, s2⟩, h3, h4⟩ := h2
   cases h4
   exact ((((ate_name s).trans (ate_argsP h1)).trans (isP_must hb)).trans (ate_items h3).one).weak (by simp only [szB]; omega)
 · cases h2
   exact ((ate_name s).trans (ate_argsP h1)).weak (by simp only [szB, List.length_nil]; omega)
theorem ate_branL {lv : Int} : ∀ {n : Nat} {acc : List Bra} {again : Bool} {s s' : PS} {l : List Bra}, branL branP L lv n acc again s = some (l, s') → Ate2 L s s' (szBs acc) (szBs l)
 | 0, _, _, _, _, _, h => by cases h
 | n + 1, acc, again, s, s', l, h => by
  rw [branL] at h
  split at h
  · simp only [Option.bind_eq_some_iff] at h
    obtain ⟨⟨x, s1⟩, h1, h2⟩ := h
    have a := ate_branL h2
    rw [szBs_snoc] at a
    exact (((ate_branP h1).trans (ate_take _ _)).weak (by dsimp only; omega)).then2 a
  · cases h; exact Ate2.refl _ _
theorem ate_named {n : Nat} {lv : Int} {s s' : PS} {x : Stm} (h : namedP L n lv s = some (x, s')) : Ate L s s' (szS x) := by
 unfold namedP at h
 split at h
 · simp only [Option.map_eq_some_iff] at h
   obtain ⟨⟨x, s1⟩, h1, h2⟩ := h
   cases h2
   exact ((ate_name s).trans (ate_argsP h1)).weak (by simp [szS, szSs, szBs])
 · split at h
   · simp only [Option.bind_eq_some_iff, Option.map_eq_some_iff] at h
     obtain ⟨⟨i, s1⟩, h1, ⟨x, s2⟩, h2, h3⟩ := h
     cases h3
     exact ((((ate_name s).trans (ate_x h1)).trans (ate_must _ _)).trans (ate_x h2)).weak (by simp [szS, szSs, szBs, szXs] <;> omega)
   · simp only [Option.map_eq_some_iff] at h
     obtain ⟨⟨x, s2⟩, h2, h3⟩ := h
     cases h3
     exact (((ate_name s).trans (ate_must _ _)).trans (ate_x h2)).weak (by simp [szS, szSs, szBs, szXs] <;> omega)
theorem ate_st : ∀ n, (∀ lv s x s', stmtP branP L n lv s = some (x, s') → Ate L s s' (szS x)) ∧ (∀ lv acc again s l s', stmtsL branP L n lv acc again s = some (l, s') → Ate2 L s s' (szSs acc) (szSs l)) ∧ (∀ o lv s l s', blockP branP L n o lv s = some (l, s') → Ate L s s' (szSs l)) := by
 intro n
 induction n with
 | zero => exact ⟨fun _ _ _ _ h => (by rw [stmtP] at h; cases h), fun _ _ _ _ _ _ h => (by rw [stmtsL] at h; cases h), fun _ _ _ _ _ h => (by rw [blockP] at h; cases h)⟩
 | succ n ih =>
  refine ⟨?_, ?_, ?_⟩
  · intro lv s x s' h
    have on : ∀ {x : ByteArray}, isP L s x = true → Ate L s s.on 1 := fun h => isP_must h
    rw [stmtP] at h
    by_cases c1 : (tok L s.p).kind = 1
    · rw [if_pos c1] at h; exact ate_named h
    rw [if_neg c1] at h
    by_cases c2 : isP L s tSkip = true
    · rw [if_pos c2] at h; cases h; exact (on c2).weak (by simp [szS, szSs, szBs, szXs])
    rw [if_neg c2] at h
    by_cases c3 : isP L s tIf = true
    · rw [if_pos c3] at h
      simp only [Option.bind_eq_some_iff] at h
      obtain ⟨⟨x1, s1⟩, h1, ⟨b1, s2⟩, h2, h3⟩ := h
      have k := ((on c3).trans (ate_x h1)).trans (ih.2.2 _ _ _ _ _ h2)
      split at h3
      · simp only [Option.map_eq_some_iff] at h3
        obtain ⟨⟨c1, s3⟩, h3, h4⟩ := h3
        cases h4
        exact ((k.trans (ih.2.2 _ _ _ _ _ h3)).trans (ate_must _ _)).weak (by simp [szS, szSs, szBs, szXs] <;> omega)
      · cases h3; exact (k.trans (ate_must _ _)).weak (by simp [szS, szSs, szBs, szXs] <;> omega)
    rw [if_neg c3] at h
    by_cases c4 : isP L s tWhile = true
    · rw [if_pos c4] at h
      simp only [Option.bind_eq_some_iff, Option.map_eq_some_iff] at h
      obtain ⟨⟨x1, s1⟩, h1, ⟨b1, s2⟩, h2, h3⟩ := h
      cases h3
      exact ((((on c4).trans (ate_x h1)).trans (ih.2.2 _ _ _ _ _ h2)).trans (ate_must _ _)).weak (by simp [szS, szSs, szBs, szXs] <;> omega)
    rw [if_neg c4] at h
    by_cases c5 : isP L s tCobegin = true
    · rw [if_pos c5] at h
      simp only [Option.map_eq_some_iff] at h
      obtain ⟨⟨b1, s2⟩, h2, h3⟩ := h
      cases h3
      exact (((on c5).trans (ate_branL h2).one).trans (ate_must _ _)).weak (by simp [szS, szSs, szXs, szBs] <;> omega)
    rw [if_neg c5] at h
    by_cases c6 : isP L s (b1 80) = true ∨ isP L s (b1 86) = true
    · rw [if_pos c6] at h
      cases h
      have o1 : Ate L s s.on 1 := by rcases c6 with h | h <;> exact on h
      exact ((((o1.trans (ate_must _ _)).trans (ate_name _)).trans (ate_must _ _))).weak (by simp [szS, szSs, szBs, szXs])
    rw [if_neg c6] at h
    by_cases c7 : isP L s tRegion = true
    · rw [if_pos c7] at h
      have k := (on c7).trans (ate_name s.on)
      split at h
      · rename_i hb
        simp only [Option.bind_eq_some_iff, Option.map_eq_some_iff] at h
        obtain ⟨⟨x1, s1⟩, h1, ⟨b1, s2⟩, h2, h3⟩ := h
        cases h3
        exact ((((k.trans (isP_must hb)).trans (ate_x h1)).trans (ih.2.2 _ _ _ _ _ h2)).trans (ate_must _ _)).weak (by simp [szS, szSs, szBs, szXs] <;> omega)
      · simp only [Option.map_eq_some_iff] at h
        obtain ⟨⟨b1, s2⟩, h2, h3⟩ := h
        cases h3
        exact ((k.trans (ih.2.2 _ _ _ _ _ h2)).trans (ate_must _ _)).weak (by simp [szS, szSs, szBs, szXs] <;> omega)
    rw [if_neg c7] at h
    by_cases c8 : isP L s tRequest = true
    · rw [if_pos c8] at h
      simp only [Option.map_eq_some_iff] at h
      obtain ⟨⟨b1, s2⟩, h2, h3⟩ := h
      cases h3
      exact ((on c8).trans (ate_items h2).one).weak (by simp [szS, szSs, szBs, szXs])
    rw [if_neg c8] at h
    by_cases c9 : isP L s tRelease = true
    · rw [if_pos c9] at h
      simp only [Option.map_eq_some_iff] at h
      obtain ⟨⟨b1, s2⟩, h2, h3⟩ := h
      cases h3
      exact ((on c9).trans (ate_items h2).one).weak (by simp [szS, szSs, szBs, szXs])
    rw [if_neg c9] at h
    by_cases c10 : isP L s tRead = true
    · rw [if_pos c10] at h
      have k := (on c10).trans (ate_name s.on)
      split at h
      · simp only [Option.map_eq_some_iff] at h
        obtain ⟨⟨b1, s2⟩, h2, h3⟩ := h
        cases h3
        exact (k.trans (ate_x h2)).weak (by simp [szS, szSs, szBs, szXs] <;> omega)
      · cases h; exact k.weak (by simp [szS, szSs, szBs, szXs])
    rw [if_neg c10] at h
    by_cases c11 : isP L s tWrite = true
    · rw [if_pos c11] at h
      simp only [Option.map_eq_some_iff] at h
      obtain ⟨⟨b1, s2⟩, h2, h3⟩ := h
      cases h3
      exact ((on c11).trans (ate_x h2)).weak (by simp [szS, szSs, szBs, szXs])
    rw [if_neg c11] at h
    cases h; exact ate_fault s (by omega) _
  · intro lv acc again s l s' h
    rw [stmtsL] at h
    split at h
    · simp only [Option.bind_eq_some_iff] at h
      obtain ⟨⟨x, s1⟩, h1, h2⟩ := h
      have a := ih.2.1 _ _ _ _ _ _ h2
      rw [szSs_snoc] at a
      exact (((ih.1 _ _ _ _ h1).trans (ate_take _ _)).weak (by dsimp only; omega)).then2 a
    · cases h; exact Ate2.refl _ _
  · intro o lv s l s' h
    rw [blockP] at h
    split at h
    · cases h; exact ate_fault s (by omega) _
    · rename_i hb
      split at h
      · rename_i ho
        cases h; exact Ate.bad _ ho (by rw [opens_place]; omega)
      · have hs := isP_lt (L := L) (s := s) (x := o) (by simpa using hb)
        have a : Ate L (opensS L s (lv + 1)) (opensS L s (lv + 1)).on 1 := ate_on (by rw [opens_place]; exact hs)
        exact (((ate_opens s (lv + 1)).trans a).trans (ih.2.1 _ _ _ _ _ _ h).one).weak (by omega)
structure DclOK (d : Dcl) : Prop where
 k1 : 1 ≤ d.kind
 k4 : d.kind ≤ 4
 n0 : 0 ≤ d.n
 n1 : d.n ≤ most
 n2 : 3 ≤ d.kind → d.n ≤ 64
def szP (p : Prc) : Nat := 1 + p.params.length + p.vars.length + szSs p.body
def szPs : List Prc → Nat
 | [] => 0
 | p :: l => szP p + szPs l
theorem szPs_snoc (e : Prc) : ∀ l : List Prc, szPs (l ++ [e]) = szPs l + szP e
 | [] => by simp [szPs]
 | a :: l => by simp only [List.cons_append, szPs, szPs_snoc e l]; omega
theorem szPs_len : ∀ l : List Prc, l.length ≤ szPs l
 | [] => Nat.le_refl _
 | a :: l => by have := szPs_len l; simp only [List.length_cons, szPs, szP]; omega
theorem szPs_mem : ∀ {l : List Prc} {p : Prc}, p ∈ l → szP p ≤ szPs l
 | a :: l, p, h => by
  simp only [szPs]
  rcases List.mem_cons.1 h with rfl | h
  · omega
  · have := szPs_mem h; omega
structure SrcOK (S : Src) (n : Nat) : Prop where
 decls : ∀ d ∈ S.decls, DclOK d
 procs : ∀ p ∈ S.procs, WFss p.body
 claims : ∀ i ∈ S.claims, ItmOK i
 body : WFss S.body
 size : S.decls.length + szPs S.procs + S.claims.length + szSs S.body ≤ n
theorem ate_size (s : PS) : Ate L s (sizeP L s).2 0 := by
 unfold sizeP
 split
 · exact Ate.refl s
 · rename_i hb
   have hs := isP_lt (L := L) (s := s) (x := b1 91) (by simpa using hb)
   have u : ∀ (s : PS) q, Ate L s (unitS L s q) 0 := fun s q => by
    unfold unitS
    split
    · exact Ate.bad 0 (by simp) (by simp only []; omega)
    · exact Ate.refl s
   exact ((((ate_on hs).trans (ate_num s.on)).trans (u _ _)).trans (ate_must _ _)).weak (by omega)
theorem unitsP_ok (hN : NumsOK L) (k : Int) (s : PS) : 0 ≤ (unitsP L k s).1 ∧ (unitsP L k s).1 ≤ most ∧ ((unitsP L k s).2.c = 0 → 3 ≤ k → (unitsP L k s).1 ≤ 64) := by
 unfold unitsP
 split
 · exact ⟨(numP_ok hN s).1, (numP_ok hN s).2, fun _ h => by omega⟩
 · unfold sizeP
   split
   · exact ⟨Int.le_refl 0, by show (0 : Int) ≤ most; decide, fun _ _ => by simp⟩
   · refine ⟨(numP_ok hN _).1, (numP_ok hN _).2, fun h0 _ => ?_⟩
     have h1 := (mustS_le _ _ _).code h0
     unfold unitS at h1
     split at h1
     · cases h1
     · rename_i hc
       have : ¬ ((numP L s.on).1 < 1 ∨ 64 < (numP L s.on).1) := fun h => hc ⟨h1, h⟩
       dsimp only
       omega
theorem decls_ok (hN : NumsOK L) : ∀ {n : Nat} {acc : List Dcl} {s s' : PS} {l : List Dcl}, declsL L n acc s = some (l, s') → s'.c = 0 → (∀ d ∈ acc, DclOK d) → (∀ d ∈ l, DclOK d)
 | 0, _, _, _, _, h, _, _ => by cases h
 | n + 1, acc, s, s', l, h, h0, ha => by
  rw [declsL] at h
  split at h
  · split at h
    · cases h; exact ha
    · rename_i hk
      refine decls_ok hN h h0 (all_snoc ha ?_)
      have h1 := (declsL_le h).code h0
      have h2 := (mustS_le _ _ _).code h1
      have u := unitsP_ok hN (kindP L s) (nameS L s.on)
      have kb : 1 ≤ kindP L s ∧ kindP L s ≤ 4 := by
       unfold kindP at hk ⊢
       repeat' split
       all_goals first | omega | simp_all
      exact ⟨kb.1, kb.2, u.1, u.2.1, fun hk => u.2.2 h2 hk⟩
  · cases h; exact ha
theorem ate_decls : ∀ {n : Nat} {acc : List Dcl} {s s' : PS} {l : List Dcl}, declsL L n acc s = some (l, s') → Ate2 L s s' acc.length l.length
 | 0, _, _, _, _, h => by cases h
 | n + 1, acc, s, s', l, h => by
  rw [declsL] at h
  split at h
  · split at h
    · cases h; exact Ate2.refl _ _
    · rename_i hk
      have a := ate_decls h
      simp only [List.length_append, List.length_cons, List.length_nil] at a
      have u : ∀ s, Ate L s (unitsP L (kindP L s) s).2 0 := fun s => by
       unfold unitsP
       split
       · exact (ate_num s).weak (by omega)
       · exact ate_size s
      have u2 : ∀ k s, Ate L s (unitsP L k s).2 0 := fun k s => by
       unfold unitsP
       split
       · exact (ate_num s).weak (by omega)
       · exact ate_size s
      exact (((((ate_on (kindP_lt hk)).trans (ate_name s.on)).trans (u2 (kindP L s) _)).trans (ate_must _ _)).weak (by omega)).then2 a
  · cases h; exact Ate2.refl _ _
theorem ate_idents : ∀ {n : Nat} {acc : List Idn} {again : Bool} {s s' : PS} {l : List Idn}, identsL L n acc again s = some (l, s') → Ate2 L s s' acc.length l.length
 | 0, _, _, _, _, _, h => by cases h
 | n + 1, acc, again, s, s', l, h => by
  rw [identsL] at h
  split at h
  · have a := ate_idents h
    simp only [List.length_append, List.length_cons, List.length_nil] at a
    exact (((ate_name s).trans (ate_take _ _)).weak (by omega)).then2 a
  · cases h; exact Ate2.refl _ _
theorem ate_vars : ∀ {n : Nat} {acc : List Idn} {s s' : PS} {l : List Idn}, varsL L n acc s = some (l, s') → Ate2 L s s' acc.length l.length
 | 0, _, _, _, _, h => by cases h
 | n + 1, acc, s, s', l, h => by
  rw [varsL] at h
  split at h
  · rename_i hb
    have a := ate_vars h
    simp only [List.length_append, List.length_cons, List.length_nil] at a
    exact ((((isP_must hb).trans (ate_name s.on)).trans (ate_must _ _)).weak (by omega)).then2 a
  · cases h; exact Ate2.refl _ _
theorem proc_ok (hN : NumsOK L) {n : Nat} {s s' : PS} {p : Prc} (h : procP branP L n s = some (p, s')) : Ate L s s' (szP p) ∧ (s'.c = 0 → WFss p.body) := by
 unfold procP at h
 simp only [Option.bind_eq_some_iff, Option.map_eq_some_iff] at h
 obtain ⟨⟨a, s1⟩, h1, ⟨b, s2⟩, h2, ⟨c, s3⟩, h3, h4⟩ := h
 cases h4
 have ka : Ate L (mustS L (nameS L s) (b1 40)) s1 a.length := by
  unfold paramsP at h1
  split at h1
  · cases h1; exact Ate.refl _
  · exact (ate_idents h1).one
 have kc := ((ate_st n).2.1 _ _ _ _ _ _ h3).one
 have tl := (ate_must (L := L) s3 tEnd).trans (ate_must _ tSemi)
 refine ⟨(((((((((ate_name s).trans (ate_must _ _)).trans ka).trans (ate_must _ _)).trans (ate_must _ _)).trans (ate_vars h2).one).trans (ate_must _ _)).trans kc).trans tl).weak (by simp only [szP]; omega), fun h0 => (st_wf hN n).2.1 _ _ _ _ _ _ h3 (tl.code h0) (by simp only [WFss])⟩
theorem procs_ok (hN : NumsOK L) : ∀ {n : Nat} {acc : List Prc} {s s' : PS} {l : List Prc}, procsL branP L n acc s = some (l, s') → Ate2 L s s' (szPs acc) (szPs l) ∧ (s'.c = 0 → (∀ p ∈ acc, WFss p.body) → ∀ p ∈ l, WFss p.body)
 | 0, _, _, _, _, h => by cases h
 | n + 1, acc, s, s', l, h => by
  rw [procsL] at h
  split at h
  · rename_i hb
    simp only [Option.bind_eq_some_iff] at h
    obtain ⟨⟨p, s1⟩, h1, h2⟩ := h
    have a := procs_ok hN h2
    have b := proc_ok hN h1
    rw [szPs_snoc] at a
    exact ⟨(((isP_must hb).trans b.1).weak (by dsimp only; omega)).then2 a.1, fun h0 ha => a.2 h0 (all_snoc ha (b.2 (a.1.code h0)))⟩
  · cases h; exact ⟨Ate2.refl _ _, fun _ h => h⟩
theorem src_ok (hN : NumsOK L) {n : Nat} {S : Src} (h : srcP branP L n = some (.inl S)) : SrcOK S L.length := by
 simp only [srcP, Option.bind_eq_some_iff, Option.map_eq_some_iff] at h
 obtain ⟨⟨ds, s1⟩, hx1, ⟨ps, s2⟩, hx2, ⟨cl, s3⟩, hx3, ⟨bd, s4⟩, hx4, hx5⟩ := h
 split at hx5
 · rename_i h0
   cases hx5
   have ke : Ate L (mustS L (mustS L s4 tEnd) (b1 46)) (endS L (mustS L (mustS L s4 tEnd) (b1 46))) 0 := by
    unfold endS
    split
    · exact Ate.refl _
    · exact ate_fault _ (by omega) 0
   have k4 := ((ate_must (L := L) s4 tEnd).trans (ate_must _ (b1 46))).trans ke
   have c4 : s4.c = 0 := k4.code h0
   have kb := ((ate_st (L := L) n).2.1 _ _ _ _ _ _ hx4).one
   have kc : Ate L s2 s3 cl.length ∧ (∀ i ∈ cl, ItmOK i) := by
    unfold claimsP at hx3
    split at hx3
    · rename_i hb
      simp only [Option.map_eq_some_iff] at hx3
      obtain ⟨⟨q, s5⟩, h1, h2⟩ := hx3
      cases h2
      exact ⟨(((isP_must hb).trans (ate_items h1).one).trans (ate_must _ _)).weak (by dsimp only; omega), itemsL_wf hN h1 nil_all⟩
    · cases hx3; exact ⟨Ate.refl _, nil_all⟩
   have kp := procs_ok hN hx2
   have kd := ate_decls hx1
   have c3 := kb.code c4
   have c3' := (ate_must (L := L) s3 tBegin).code c3
   have c2 := kc.1.code c3'
   have c1 := kp.1.code c2
   have all := ((((((((ate_must (L := L) ⟨0, 0, 0⟩ tProgram).trans (ate_name _)).trans (ate_must _ tSemi)).trans kd.one).trans kp.1.one).trans kc.1).trans (ate_must _ tBegin)).trans kb).trans k4
   have e1 := all.size h0
   have e2 := all.place
   simp only [Nat.add_zero] at e1 e2
   exact ⟨decls_ok hN hx1 c1 nil_all, kp.2 c2 nil_all, kc.2, (st_wf hN n).2.1 _ _ _ _ _ _ hx4 c4 (by simp only [WFss]), by dsimp only; omega⟩
 · cases hx5
theorem parse_ok {src : List UInt8} {n : Nat} {S : Src} (h : parseP branP src n = some (.inl S)) : SrcOK S (src.length + 1) := by
 unfold parseP at h
 simp only [Option.bind_eq_some_iff] at h
 obtain ⟨q, hlex, hx⟩ := h
 cases q with
 | inr f => simp at hx
 | inl L =>
  have l := lexFrom_len hlex
  simp at l
  have k := src_ok (lexFrom_nums nil_all hlex) hx
  exact ⟨k.decls, k.procs, k.claims, k.body, by have := k.size; omega⟩
end Go.Vm.Parse
namespace Go.Vm.Tree
open Go Go.Proofs Go.Vm.Parse
variable {α : Type}
def allSame (f : α → α → Bool) : List α → List α → Bool
 | [], [] => true
 | a :: l, b :: m => f a b && allSame f l m
 | _, _ => false
theorem allSame_len {f : α → α → Bool} : ∀ {a b : List α}, allSame f a b = true → a.length = b.length
 | [], [], _ => rfl
 | [], _ :: _, h => by simp [allSame] at h
 | _ :: _, [], h => by simp [allSame] at h
 | e :: es, g :: fs, h => by
  simp only [allSame, Bool.and_eq_true] at h
  simp [allSame_len h.2]
theorem allSame_at {f : α → α → Bool} : ∀ {a b : List α}, a.length = b.length → (∀ i (h : i < a.length) (h' : i < b.length), f a[i] b[i] = true) → allSame f a b = true
 | [], [], _, _ => rfl
 | [], _ :: _, h, _ => by simp at h
 | _ :: _, [], h, _ => by simp at h
 | e :: es, g :: fs, h, hk => by
  simp only [allSame, Bool.and_eq_true]
  exact ⟨hk 0 (by simp) (by simp), allSame_at (by simpa using h) fun i h1 h2 => hk (i + 1) (by simpa using h1) (by simpa using h2)⟩
theorem allSame_no {f : α → α → Bool} : ∀ {a b : List α} (i : Nat) (h : i < a.length) (h' : i < b.length), f a[i] b[i] = false → allSame f a b = false
 | [], _, i, h, _, _ => absurd h (Nat.not_lt_zero _)
 | _ :: _, [], i, _, h, _ => absurd h (Nat.not_lt_zero _)
 | e :: es, g :: fs, i, h, h', hf => by
  simp only [allSame]
  cases i with
  | zero => simp only [List.getElem_cons_zero] at hf; rw [hf]; rfl
  | succ i => rw [allSame_no i (by simpa using h) (by simpa using h') (by simpa using hf), Bool.and_false]
theorem allSame_ne {f : α → α → Bool} {a b : List α} (h : ¬ a.length = b.length) : allSame f a b = false := by
 cases e : allSame f a b with
 | false => rfl
 | true => exact absurd (allSame_len e) h
theorem allSame_refl {f : α → α → Bool} : ∀ {l : List α}, (∀ x ∈ l, f x x = true) → allSame f l l = true
 | [], _ => rfl
 | a :: l, h => by simp only [allSame, Bool.and_eq_true]; exact ⟨h a (by simp), allSame_refl fun x hx => h x (by simp [hx])⟩
def sameI (a b : Itm) : Bool := decide (a.name = b.name) && decide (a.n = b.n)
mutual
def sameE : Ex → Ex → Bool
 | .mk k _ n o x s, .mk k' _ n' o' x' s' => decide (k = k') && (decide (n = n') && (decide (o = o') && (decide (x = x') && sameEs s s')))
def sameEs : List Ex → List Ex → Bool
 | [], [] => true
 | e :: es, f :: fs => sameE e f && sameEs es fs
 | _, _ => false
end
theorem sameEs_eq : ∀ (a b : List Ex), sameEs a b = allSame sameE a b
 | [], [] => by simp only [sameEs, allSame]
 | [], _ :: _ => by simp only [sameEs, allSame]
 | _ :: _, [] => by simp only [sameEs, allSame]
 | e :: es, f :: fs => by simp only [sameEs, allSame, sameEs_eq es fs]
def sameB (a b : Bra) : Bool := decide (a.name = b.name) && (allSame sameE a.args b.args && allSame sameI a.claims b.claims)
mutual
def sameS : Stm → Stm → Bool
 | .mk k _ x e b l br it, .mk k' _ x' e' b' l' br' it' => decide (k = k') && (decide (x = x') && (allSame sameE e e' && (sameSs b b' && (sameSs l l' && (allSame sameB br br' && allSame sameI it it')))))
def sameSs : List Stm → List Stm → Bool
 | [], [] => true
 | e :: es, f :: fs => sameS e f && sameSs es fs
 | _, _ => false
end
theorem sameSs_eq : ∀ (a b : List Stm), sameSs a b = allSame sameS a b
 | [], [] => by simp only [sameSs, allSame]
 | [], _ :: _ => by simp only [sameSs, allSame]
 | _ :: _, [] => by simp only [sameSs, allSame]
 | e :: es, f :: fs => by simp only [sameSs, allSame, sameSs_eq es fs]
def sameD (a b : Dcl) : Bool := decide (a.kind = b.kind) && (decide (a.name = b.name) && decide (a.n = b.n))
def sameN (a b : Idn) : Bool := decide (a.name = b.name)
def sameP (a b : Prc) : Bool := decide (a.name = b.name) && (allSame sameN a.params b.params && (allSame sameN a.vars b.vars && allSame sameS a.body b.body))
def sameR (a b : Src) : Bool := decide (a.name = b.name) && (allSame sameD a.decls b.decls && (allSame sameP a.procs b.procs && (allSame sameI a.claims b.claims && allSame sameS a.body b.body)))
theorem sameI_refl (a : Itm) : sameI a a = true := by simp [sameI]
mutual
theorem sameE_refl : ∀ e, sameE e e = true
 | .mk k a n o x s => by simp [sameE, sameEs_refl s]
theorem sameEs_refl : ∀ l, sameEs l l = true
 | [] => rfl
 | e :: l => by simp [sameEs, sameE_refl e, sameEs_refl l]
end
theorem sameB_refl (a : Bra) : sameB a a = true := by simp [sameB, allSame_refl fun x _ => sameE_refl x, allSame_refl fun x _ => sameI_refl x]
mutual
theorem sameS_refl : ∀ e, sameS e e = true
 | .mk k a x e b l br it => by simp [sameS, sameSs_refl b, sameSs_refl l, allSame_refl fun x _ => sameE_refl x, allSame_refl fun x _ => sameI_refl x, allSame_refl fun x _ => sameB_refl x]
theorem sameSs_refl : ∀ l, sameSs l l = true
 | [] => rfl
 | e :: l => by simp [sameSs, sameS_refl e, sameSs_refl l]
end
theorem sameP_refl (a : Prc) : sameP a a = true := by simp [sameP, allSame_refl fun x _ => sameS_refl x, allSame_refl (f := sameN) fun x _ => by simp [sameN]]
theorem sameR_refl (a : Src) : sameR a a = true := by
 simp [sameR, allSame_refl fun x _ => sameS_refl x, allSame_refl fun x _ => sameP_refl x, allSame_refl fun x _ => sameI_refl x, allSame_refl (f := sameD) fun x _ => by simp [sameD]]
def sum (f : α → Nat) : List α → Nat
 | [] => 0
 | a :: l => f a + sum f l
mutual
def cntE : Ex → Nat
 | .mk _ _ _ _ _ s => 1 + cntEs s
def cntEs : List Ex → Nat
 | [] => 0
 | e :: l => cntE e + cntEs l
end
theorem cntEs_eq : ∀ l, cntEs l = sum cntE l
 | [] => by simp only [cntEs, sum]
 | e :: l => by simp only [cntEs, sum, cntEs_eq l]
def cntB (b : Bra) : Nat := sum cntE b.args
mutual
def cntS : Stm → Nat
 | .mk _ _ _ e b l br _ => 1 + (sum cntE e + (cntSs b + (cntSs l + sum cntB br)))
def cntSs : List Stm → Nat
 | [] => 0
 | e :: l => cntS e + cntSs l
end
theorem cntSs_eq : ∀ l, cntSs l = sum cntS l
 | [] => by simp only [cntSs, sum]
 | e :: l => by simp only [cntSs, sum, cntSs_eq l]
def cntP (p : Prc) : Nat := sum cntS p.body
def cntR (s : Src) : Nat := sum cntS s.body + sum cntP s.procs
mutual
theorem cntE_le : ∀ e, cntE e ≤ szX e
 | .mk k a n o x s => by have := cntEs_le s; simp only [cntE, szX]; omega
theorem cntEs_le : ∀ l, cntEs l ≤ szXs l
 | [] => by simp only [cntEs]; omega
 | e :: l => by have := cntE_le e; have := cntEs_le l; simp only [cntEs, szXs]; omega
end
theorem cntB_le (b : Bra) : cntB b ≤ szB b := by have := cntEs_le b.args; rw [cntEs_eq] at this; simp only [cntB, szB]; omega
theorem cntBs_le : ∀ l : List Bra, sum cntB l ≤ szBs l
 | [] => by simp only [sum]; omega
 | e :: l => by have := cntB_le e; have := cntBs_le l; simp only [sum, szBs]; omega
mutual
theorem cntS_le : ∀ e, cntS e ≤ szS e
 | .mk k a x e b l br it => by
  have := cntSs_le b; have := cntSs_le l; have := cntBs_le br; have h := cntEs_le e; rw [cntEs_eq] at h
  simp only [cntS, szS]; omega
theorem cntSs_le : ∀ l, cntSs l ≤ szSs l
 | [] => by simp only [cntSs]; omega
 | e :: l => by have := cntS_le e; have := cntSs_le l; simp only [cntSs, szSs]; omega
end
theorem cntPs_le : ∀ l : List Prc, sum cntP l ≤ szPs l
 | [] => by simp only [sum]; omega
 | e :: l => by
  have h := cntSs_le e.body; rw [cntSs_eq] at h
  have := cntPs_le l; simp only [sum, szPs, szP, cntP]; omega
theorem sum_take (f : α → Nat) : ∀ (l : List α) (i : Nat) (h : i < l.length), sum f (l.take (i + 1)) = sum f (l.take i) + f l[i]
 | [], i, h => absurd h (Nat.not_lt_zero _)
 | a :: l, 0, _ => by simp [sum]
 | a :: l, i + 1, h => by
  have := sum_take f l i (by simpa using h)
  simp only [List.take_succ_cons, sum, List.getElem_cons_succ, this]; omega
theorem sum_take_le (f : α → Nat) : ∀ (l : List α) (i : Nat), sum f (l.take i) ≤ sum f l
 | [], i => by simp [sum]
 | a :: l, 0 => by simp [sum]
 | a :: l, i + 1 => by have := sum_take_le f l i; simp only [List.take_succ_cons, sum]; omega
theorem sum_all (f : α → Nat) (l : List α) : sum f (l.take l.length) = sum f l := by rw [List.take_length]
def GT (ρ : Rep α) (H : Heap) (v : Value) (l : List α) : Prop :=
 (v = .slice none 0 0 ∧ l = []) ∨ ∃ id tl cs, v = .slice (some ⟨id, 0, none⟩) l.length l.length ∧ H.get id = .row true tl ρ.k cs ∧ ρ.L H (fun _ => True) l cs
theorem GT.of (ρ : Rep α) {H : Heap} {S : Nat → Prop} {v : Value} {l : List α} (h : ρ.G H S v l) : GT ρ H v l := by
 refine h.imp id ?_
 rintro ⟨id, tl, cs, h1, _, _, h4, h5⟩
 exact ⟨id, tl, cs, h1, h4, ρ.L_move (Same.refl (fun _ => False) H) (fun i _ _ => ⟨trivial, fun h => h⟩) h5⟩
theorem GT.keep {ρ : Rep α} {H H' : Heap} {v : Value} {l : List α} (h : GT ρ H v l) (k : Same (fun _ => False) H H') : GT ρ H' v l := by
 refine h.imp id ?_
 rintro ⟨id, tl, cs, h1, h4, h5⟩
 exact ⟨id, tl, cs, h1, k.at h4 (by simp) fun h => h, ρ.L_move k (fun i _ _ => ⟨trivial, fun h => h⟩) h5⟩
theorem GT.slice {ρ : Rep α} {H : Heap} {v : Value} {l : List α} (h : GT ρ H v l) : ∃ b, v = .slice b l.length l.length := by
 rcases h with ⟨rfl, rfl⟩ | ⟨id, tl, cs, rfl, _⟩ <;> exact ⟨_, rfl⟩
theorem L_item (ρ : Rep α) {H : Heap} {S : Nat → Prop} : ∀ {l : List α} {cs : List Value}, ρ.L H S l cs → ∀ i (hi : i < l.length), ρ.R H S l[i] ((cs.drop (i * ρ.k)).take ρ.k)
 | [], cs, _, i, hi => absurd hi (Nat.not_lt_zero _)
 | e :: l, cs, h, i, hi => by
  obtain ⟨c1, c2, rfl, h1, h2⟩ := h
  have hl := ρ.len h1
  cases i with
  | zero =>
   simp only [Nat.zero_mul, List.drop_zero, List.getElem_cons_zero]
   rw [List.take_left' hl]; exact h1
  | succ i =>
   have e : (i + 1) * ρ.k = c1.length + i * ρ.k := by rw [Nat.add_mul, hl]; omega
   rw [List.getElem_cons_succ, e, List.drop_append, List.drop_eq_nil_of_le (by omega), List.nil_append, show c1.length + i * ρ.k - c1.length = i * ρ.k by omega]
   exact L_item ρ h2 i (by simpa using hi)
theorem GT.at {ρ : Rep α} {H : Heap} {b : Option Addr} {n m : Nat} {l : List α} (h : GT ρ H (.slice b n m) l) {i : Nat} (hi : i < l.length) :
  ∃ id tl cs, b = some ⟨id, 0, none⟩ ∧ n = l.length ∧ m = l.length ∧ H.get id = .row true tl ρ.k cs ∧ cs.length = l.length * ρ.k ∧ ρ.R H (fun _ => True) l[i] ((cs.drop (i * ρ.k)).take ρ.k) := by
 rcases h with ⟨_, rfl⟩ | ⟨id, tl, cs, e, h4, h5⟩
 · simp at hi
 · cases e
   exact ⟨id, tl, cs, rfl, rfl, rfl, h4, ρ.L_len h5, L_item ρ h5 i hi⟩
theorem GT.ofEx {H : Heap} {S : Nat → Prop} {v : Value} {l : List Ex} (h : (v = .slice none 0 0 ∧ l = []) ∨ ∃ id tl cs', v = .slice (some ⟨id, 0, none⟩) l.length l.length ∧ S id ∧ H.get id = .row true tl 6 cs' ∧ REs H S l cs') : GT repEx H v l := by
 refine h.imp id ?_
 rintro ⟨id, tl, cs, h1, _, h4, h5⟩
 exact ⟨id, tl, cs, h1, h4, repEx.L_move (Same.refl (fun _ => False) H) (fun i _ _ => ⟨trivial, fun h => h⟩) (repEx_L.2 h5)⟩
theorem GT.ofSt {H : Heap} {S : Nat → Prop} {v : Value} {l : List Stm} (h : (v = .slice none 0 0 ∧ l = []) ∨ ∃ id tl cs', v = .slice (some ⟨id, 0, none⟩) l.length l.length ∧ tl ≤ 1 ∧ S id ∧ H.get id = .row true tl 8 cs' ∧ RSs H S l cs') : GT repStm H v l := by
 refine h.imp id ?_
 rintro ⟨id, tl, cs, h1, _, _, h4, h5⟩
 exact ⟨id, tl, cs, h1, h4, repStm.L_move (Same.refl (fun _ => False) H) (fun i _ _ => ⟨trivial, fun h => h⟩) (repStm_L.2 h5)⟩
abbrev T0 : Nat → Prop := fun _ => True
theorem ex_parts {H : Heap} {S : Nat → Prop} {k a n o : Int} {x : ByteArray} {s : List Ex} {cs : List Value} (h : RE H S (.mk k a n o x s) cs) : ∃ b, cs = [.int .i64 k, .int .i64 a, .int .i64 n, .int .i64 o, .string x, .slice b s.length s.length] ∧ GT repEx H (.slice b s.length s.length) s := by
 simp only [RE] at h
 obtain ⟨v, rfl, h⟩ := h
 have g := GT.ofEx h
 obtain ⟨b, rfl⟩ := g.slice
 exact ⟨b, rfl, g⟩
theorem st_parts {H : Heap} {S : Nat → Prop} {k a : Int} {x : ByteArray} {e : List Ex} {bd el : List Stm} {br : List Bra} {it : List Itm} {cs : List Value} (h : RS H S (.mk k a x e bd el br it) cs) :
  ∃ b1 b2 b3 b4 b5, cs = [.int .i64 k, .int .i64 a, .string x, .slice b1 e.length e.length, .slice b2 bd.length bd.length, .slice b3 el.length el.length, .slice b4 br.length br.length, .slice b5 it.length it.length] ∧
   GT repEx H (.slice b1 e.length e.length) e ∧ GT repStm H (.slice b2 bd.length bd.length) bd ∧ GT repStm H (.slice b3 el.length el.length) el ∧ GT repBra H (.slice b4 br.length br.length) br ∧ GT repItm H (.slice b5 it.length it.length) it := by
 simp only [RS] at h
 obtain ⟨v1, v2, v3, v4, v5, rfl, h1, h4, h5, h2, h3⟩ := h
 have g1 := GT.of repEx h1; have g2 := GT.ofSt h2; have g3 := GT.ofSt h3; have g4 := GT.of repBra h4; have g5 := GT.of repItm h5
 obtain ⟨b1, rfl⟩ := g1.slice; obtain ⟨b2, rfl⟩ := g2.slice; obtain ⟨b3, rfl⟩ := g3.slice; obtain ⟨b4, rfl⟩ := g4.slice; obtain ⟨b5, rfl⟩ := g5.slice
 exact ⟨b1, b2, b3, b4, b5, rfl, g1, g2, g3, g4, g5⟩
theorem br_parts {H : Heap} {S : Nat → Prop} {b : Bra} {cs : List Value} (h : repBra.R H S b cs) :
  ∃ b1 b2, cs = [.int .i64 b.at_, .string b.name, .slice b1 b.args.length b.args.length, .slice b2 b.claims.length b.claims.length] ∧ GT repEx H (.slice b1 b.args.length b.args.length) b.args ∧ GT repItm H (.slice b2 b.claims.length b.claims.length) b.claims := by
 obtain ⟨v, w, rfl, h1, h2⟩ := h
 have g1 := GT.of repEx h1; have g2 := GT.of repItm h2
 obtain ⟨b1, rfl⟩ := g1.slice; obtain ⟨b2, rfl⟩ := g2.slice
 exact ⟨b1, b2, rfl, g1, g2⟩
theorem pr_parts {H : Heap} {S : Nat → Prop} {p : Prc} {cs : List Value} (h : repPrc.R H S p cs) :
  ∃ b1 b2 b3, cs = pc5 p.at_ p.name (.slice b1 p.params.length p.params.length) (.slice b2 p.vars.length p.vars.length) (.slice b3 p.body.length p.body.length) ∧ GT repIdn H (.slice b1 p.params.length p.params.length) p.params ∧ GT repIdn H (.slice b2 p.vars.length p.vars.length) p.vars ∧ GT repStm H (.slice b3 p.body.length p.body.length) p.body := by
 obtain ⟨v1, v2, v3, rfl, h1, h2, h3⟩ := h
 have g1 := GT.of repIdn h1; have g2 := GT.of repIdn h2; have g3 := GT.of repStm h3
 obtain ⟨b1, rfl⟩ := g1.slice; obtain ⟨b2, rfl⟩ := g2.slice; obtain ⟨b3, rfl⟩ := g3.slice
 exact ⟨b1, b2, b3, rfl, g1, g2, g3⟩
theorem sr_parts {H : Heap} {S : Nat → Prop} {s : Src} {cs : List Value} (h : RSrc H S s cs) :
  ∃ b1 b2 b3 b4, cs = sr5 s.name (.slice b1 s.decls.length s.decls.length) (.slice b2 s.procs.length s.procs.length) (.slice b3 s.claims.length s.claims.length) (.slice b4 s.body.length s.body.length) ∧
   GT repDcl H (.slice b1 s.decls.length s.decls.length) s.decls ∧ GT repPrc H (.slice b2 s.procs.length s.procs.length) s.procs ∧ GT repItm H (.slice b3 s.claims.length s.claims.length) s.claims ∧ GT repStm H (.slice b4 s.body.length s.body.length) s.body := by
 obtain ⟨v1, v2, v3, v4, rfl, h1, h2, h3, h4⟩ := h
 have g1 := GT.of repDcl h1; have g2 := GT.of repPrc h2; have g3 := GT.of repItm h3; have g4 := GT.of repStm h4
 obtain ⟨b1, rfl⟩ := g1.slice; obtain ⟨b2, rfl⟩ := g2.slice; obtain ⟨b3, rfl⟩ := g3.slice; obtain ⟨b4, rfl⟩ := g4.slice
 exact ⟨b1, b2, b3, b4, rfl, g1, g2, g3, g4⟩
end Go.Vm.Tree
namespace Go.Vm.Tree
open Go Go.Proofs Go.Vm.Parse
attribute [local simp] repCells_succ writeAt rd_Fr toList_beq gpe gpn spe gse gsn
theorem min_int {P : Program} (ts : List TypeId) (n m : Nat) (H : Heap) : exBuiltin P .min ts [.int .i64 n, .int .i64 m] H = some (.val (.int .i64 (min n m : Nat)), H) := by
 have e : pureRun P (Builtin.min_ ts.toArray 0 #[Value.int .i64 n, Value.int .i64 m]) = some (.int .i64 (min n m : Nat)) := by
  show pureRun P (pure (Value.int .i64 (if (m : Int) < n then (m : Int) else n))) = _
  have : (if (m : Int) < n then (m : Int) else n) = (min n m : Nat) := by split <;> omega
  rw [this]; rfl
 show (match groundL [Value.int .i64 n, Value.int .i64 m] with | true => val1 (ifGround (pureRun P (Builtin.min_ ts.toArray 0 #[Value.int .i64 n, Value.int .i64 m]))) H | false => none) = _
 rw [e]; rfl
section
variable {E : Hooks} (hE : Plain E)
include hE
theorem c_alikeDecl (args : List Value) (H : Heap) : (run Try.prog E).call 36 args H = callB Try.prog E Try.f36 args H := call_B Try.func36 rfl (by decide +kernel) (hE.no _ rfl rfl) args H
omit hE in
theorem q_alikeDecl : quiet Try.prog (drawN Try.f36 0) = true := by decide +kernel
theorem alikeDecl {a b : List Dcl} {f : Dcl → Dcl → Bool} {g : Nat} {H : Heap} {v1 v2 : Value} (hl : a.length ≤ 100000) (hl2 : b.length ≤ 100000) (h1 : GT repDcl H v1 a) (h2 : GT repDcl H v2 b)
  (hf : ∀ (x y : Dcl), x ∈ a → y ∈ b → ∀ K c1 c2, repDcl.R K T0 x c1 → repDcl.R K T0 y c2 → Gives ((run Try.prog E).call g [.agg ⟨c1⟩, .agg ⟨c2⟩] K) fun o K' => o = .val (.bool (f x y)) ∧ Same (fun _ => False) K K') :
  Gives ((run Try.prog E).call 36 [v1, v2, .func (.func g) #[] #[]] H) fun o H' => o = .val (.bool (allSame f a b)) ∧ Same (fun _ => False) H H' := by
 obtain ⟨b1, rfl⟩ := h1.slice
 obtain ⟨b2, rfl⟩ := h2.slice
 rw [c_alikeDecl hE, callB, bodyOf]
 simp [Try.f36, min_int]
 refine loop_wp (fun m t K => ∃ i : Nat, i + m = min a.length b.length ∧ rd t 13 = .int .i64 i ∧ rd t 12 = .int .i64 (min a.length b.length : Nat) ∧ Same (fun _ => False) H K ∧ ∀ j (h : j < a.length) (h' : j < b.length), j < i → f a[j] b[j] = true) (min a.length b.length) ?_ ?_
 · exact ⟨0, by omega, by simp, by simp, Same.refl _ _, fun j _ _ h => by omega⟩
 rintro m t K hk ⟨i, hm, g13, g12, kS, hj⟩
 have ht : t.length = 33 := hk.1.trans (by simp [len_Bs])
 have hh := hk.all [0, 1, 2] (by decide +kernel)
 simp at hh
 obtain ⟨u0, u1, u2⟩ := hh
 rcases Nat.lt_or_ge i (min a.length b.length) with hi | hi
 · have hia : i < a.length := by omega
   have hib : i < b.length := by omega
   obtain ⟨id1, tl1, cs1, rfl, -, -, p1, l1, r1⟩ := (h1.keep kS).at hia
   obtain ⟨id2, tl2, cs2, rfl, -, -, p2, l2, r2⟩ := (h2.keep kS).at hib
   obtain ⟨o, K', e3, rfl, k3⟩ := hf _ _ (List.getElem_mem hia) (List.getElem_mem hib) K _ _ r1 r2
   have hk0 : repDcl.k = 4 := rfl
   rw [hk0] at p1 p2 l1 l2 e3
   have hw := wrap64 ((i : Int) + 1) (by omega) (by omega)
   simp [ht, u0, u1, u2, g13, g12, show (i : Int) < ((min a.length b.length : Nat) : Int) by omega]
   refine region_quiet (by exact q_alikeDecl) ?_
   by_cases hs : f a[i] b[i] = true
   · rw [hs] at e3
     simp [ht, u0, u1, u2, g13, g12, hia, hib, p1, p2, l1, l2, show i * 4 + 4 ≤ a.length * 4 by omega, show i * 4 + 4 ≤ b.length * 4 by omega, e3, hw]
     refine ⟨m - 1, by omega, i + 1, by omega, by simp [ht], kS.then0 k3, fun j h h' hlt => ?_⟩
     rcases Nat.lt_or_ge j i with h3 | h3
     · exact hj j h h' h3
     · obtain rfl : j = i := by omega
       exact hs
   · have hs' : f a[i] b[i] = false := by simpa using hs
     rw [hs'] at e3
     simp [ht, u0, u1, u2, g13, g12, hia, hib, p1, p2, l1, l2, show i * 4 + 4 ≤ a.length * 4 by omega, show i * 4 + 4 ≤ b.length * 4 by omega, e3]
     exact ⟨allSame_no i hia hib hs', kS.then0 k3⟩
 · simp [ht, u0, u1, u2, g13, g12, show ¬ (i : Int) < ((min a.length b.length : Nat) : Int) by omega]
   by_cases hlen : a.length = b.length
   · refine ⟨?_, kS⟩
     rw [allSame_at hlen fun j h h' => hj j h h' (by omega)]
     simp [hlen]
   · refine ⟨?_, kS⟩
     rw [allSame_ne hlen]
     simp; omega
theorem c_alikeProc (args : List Value) (H : Heap) : (run Try.prog E).call 38 args H = callB Try.prog E Try.f38 args H := call_B Try.func38 rfl (by decide +kernel) (hE.no _ rfl rfl) args H
omit hE in
theorem q_alikeProc : quiet Try.prog (drawN Try.f38 0) = true := by decide +kernel
theorem alikeProc {a b : List Prc} {f : Prc → Prc → Bool} {g : Nat} {H : Heap} {v1 v2 : Value} (hl : a.length ≤ 100000) (hl2 : b.length ≤ 100000) (h1 : GT repPrc H v1 a) (h2 : GT repPrc H v2 b)
  (hf : ∀ (x y : Prc), x ∈ a → y ∈ b → ∀ K c1 c2, repPrc.R K T0 x c1 → repPrc.R K T0 y c2 → Gives ((run Try.prog E).call g [.agg ⟨c1⟩, .agg ⟨c2⟩] K) fun o K' => o = .val (.bool (f x y)) ∧ Same (fun _ => False) K K') :
  Gives ((run Try.prog E).call 38 [v1, v2, .func (.func g) #[] #[]] H) fun o H' => o = .val (.bool (allSame f a b)) ∧ Same (fun _ => False) H H' := by
 obtain ⟨b1, rfl⟩ := h1.slice
 obtain ⟨b2, rfl⟩ := h2.slice
 rw [c_alikeProc hE, callB, bodyOf]
 simp [Try.f38, min_int]
 refine loop_wp (fun m t K => ∃ i : Nat, i + m = min a.length b.length ∧ rd t 13 = .int .i64 i ∧ rd t 12 = .int .i64 (min a.length b.length : Nat) ∧ Same (fun _ => False) H K ∧ ∀ j (h : j < a.length) (h' : j < b.length), j < i → f a[j] b[j] = true) (min a.length b.length) ?_ ?_
 · exact ⟨0, by omega, by simp, by simp, Same.refl _ _, fun j _ _ h => by omega⟩
 rintro m t K hk ⟨i, hm, g13, g12, kS, hj⟩
 have ht : t.length = 33 := hk.1.trans (by simp [len_Bs])
 have hh := hk.all [0, 1, 2] (by decide +kernel)
 simp at hh
 obtain ⟨u0, u1, u2⟩ := hh
 rcases Nat.lt_or_ge i (min a.length b.length) with hi | hi
 · have hia : i < a.length := by omega
   have hib : i < b.length := by omega
   obtain ⟨id1, tl1, cs1, rfl, -, -, p1, l1, r1⟩ := (h1.keep kS).at hia
   obtain ⟨id2, tl2, cs2, rfl, -, -, p2, l2, r2⟩ := (h2.keep kS).at hib
   obtain ⟨o, K', e3, rfl, k3⟩ := hf _ _ (List.getElem_mem hia) (List.getElem_mem hib) K _ _ r1 r2
   have hk0 : repPrc.k = 5 := rfl
   rw [hk0] at p1 p2 l1 l2 e3
   have hw := wrap64 ((i : Int) + 1) (by omega) (by omega)
   simp [ht, u0, u1, u2, g13, g12, show (i : Int) < ((min a.length b.length : Nat) : Int) by omega]
   refine region_quiet (by exact q_alikeProc) ?_
   by_cases hs : f a[i] b[i] = true
   · rw [hs] at e3
     simp [ht, u0, u1, u2, g13, g12, hia, hib, p1, p2, l1, l2, show i * 5 + 5 ≤ a.length * 5 by omega, show i * 5 + 5 ≤ b.length * 5 by omega, e3, hw]
     refine ⟨m - 1, by omega, i + 1, by omega, by simp [ht], kS.then0 k3, fun j h h' hlt => ?_⟩
     rcases Nat.lt_or_ge j i with h3 | h3
     · exact hj j h h' h3
     · obtain rfl : j = i := by omega
       exact hs
   · have hs' : f a[i] b[i] = false := by simpa using hs
     rw [hs'] at e3
     simp [ht, u0, u1, u2, g13, g12, hia, hib, p1, p2, l1, l2, show i * 5 + 5 ≤ a.length * 5 by omega, show i * 5 + 5 ≤ b.length * 5 by omega, e3]
     exact ⟨allSame_no i hia hib hs', kS.then0 k3⟩
 · simp [ht, u0, u1, u2, g13, g12, show ¬ (i : Int) < ((min a.length b.length : Nat) : Int) by omega]
   by_cases hlen : a.length = b.length
   · refine ⟨?_, kS⟩
     rw [allSame_at hlen fun j h h' => hj j h h' (by omega)]
     simp [hlen]
   · refine ⟨?_, kS⟩
     rw [allSame_ne hlen]
     simp; omega
theorem c_alikeItem (args : List Value) (H : Heap) : (run Try.prog E).call 40 args H = callB Try.prog E Try.f40 args H := call_B Try.func40 rfl (by decide +kernel) (hE.no _ rfl rfl) args H
omit hE in
theorem q_alikeItem : quiet Try.prog (drawN Try.f40 0) = true := by decide +kernel
theorem alikeItem {a b : List Itm} {f : Itm → Itm → Bool} {g : Nat} {H : Heap} {v1 v2 : Value} (hl : a.length ≤ 100000) (hl2 : b.length ≤ 100000) (h1 : GT repItm H v1 a) (h2 : GT repItm H v2 b)
  (hf : ∀ (x y : Itm), x ∈ a → y ∈ b → ∀ K c1 c2, repItm.R K T0 x c1 → repItm.R K T0 y c2 → Gives ((run Try.prog E).call g [.agg ⟨c1⟩, .agg ⟨c2⟩] K) fun o K' => o = .val (.bool (f x y)) ∧ Same (fun _ => False) K K') :
  Gives ((run Try.prog E).call 40 [v1, v2, .func (.func g) #[] #[]] H) fun o H' => o = .val (.bool (allSame f a b)) ∧ Same (fun _ => False) H H' := by
 obtain ⟨b1, rfl⟩ := h1.slice
 obtain ⟨b2, rfl⟩ := h2.slice
 rw [c_alikeItem hE, callB, bodyOf]
 simp [Try.f40, min_int]
 refine loop_wp (fun m t K => ∃ i : Nat, i + m = min a.length b.length ∧ rd t 13 = .int .i64 i ∧ rd t 12 = .int .i64 (min a.length b.length : Nat) ∧ Same (fun _ => False) H K ∧ ∀ j (h : j < a.length) (h' : j < b.length), j < i → f a[j] b[j] = true) (min a.length b.length) ?_ ?_
 · exact ⟨0, by omega, by simp, by simp, Same.refl _ _, fun j _ _ h => by omega⟩
 rintro m t K hk ⟨i, hm, g13, g12, kS, hj⟩
 have ht : t.length = 33 := hk.1.trans (by simp [len_Bs])
 have hh := hk.all [0, 1, 2] (by decide +kernel)
 simp at hh
 obtain ⟨u0, u1, u2⟩ := hh
 rcases Nat.lt_or_ge i (min a.length b.length) with hi | hi
 · have hia : i < a.length := by omega
   have hib : i < b.length := by omega
   obtain ⟨id1, tl1, cs1, rfl, -, -, p1, l1, r1⟩ := (h1.keep kS).at hia
   obtain ⟨id2, tl2, cs2, rfl, -, -, p2, l2, r2⟩ := (h2.keep kS).at hib
   obtain ⟨o, K', e3, rfl, k3⟩ := hf _ _ (List.getElem_mem hia) (List.getElem_mem hib) K _ _ r1 r2
   have hk0 : repItm.k = 3 := rfl
   rw [hk0] at p1 p2 l1 l2 e3
   have hw := wrap64 ((i : Int) + 1) (by omega) (by omega)
   simp [ht, u0, u1, u2, g13, g12, show (i : Int) < ((min a.length b.length : Nat) : Int) by omega]
   refine region_quiet (by exact q_alikeItem) ?_
   by_cases hs : f a[i] b[i] = true
   · rw [hs] at e3
     simp [ht, u0, u1, u2, g13, g12, hia, hib, p1, p2, l1, l2, show i * 3 + 3 ≤ a.length * 3 by omega, show i * 3 + 3 ≤ b.length * 3 by omega, e3, hw]
     refine ⟨m - 1, by omega, i + 1, by omega, by simp [ht], kS.then0 k3, fun j h h' hlt => ?_⟩
     rcases Nat.lt_or_ge j i with h3 | h3
     · exact hj j h h' h3
     · obtain rfl : j = i := by omega
       exact hs
   · have hs' : f a[i] b[i] = false := by simpa using hs
     rw [hs'] at e3
     simp [ht, u0, u1, u2, g13, g12, hia, hib, p1, p2, l1, l2, show i * 3 + 3 ≤ a.length * 3 by omega, show i * 3 + 3 ≤ b.length * 3 by omega, e3]
     exact ⟨allSame_no i hia hib hs', kS.then0 k3⟩
 · simp [ht, u0, u1, u2, g13, g12, show ¬ (i : Int) < ((min a.length b.length : Nat) : Int) by omega]
   by_cases hlen : a.length = b.length
   · refine ⟨?_, kS⟩
     rw [allSame_at hlen fun j h h' => hj j h h' (by omega)]
     simp [hlen]
   · refine ⟨?_, kS⟩
     rw [allSame_ne hlen]
     simp; omega
theorem c_alikeStmt (args : List Value) (H : Heap) : (run Try.prog E).call 46 args H = callB Try.prog E Try.f46 args H := call_B Try.func46 rfl (by decide +kernel) (hE.no _ rfl rfl) args H
omit hE in
theorem q_alikeStmt : quiet Try.prog (drawN Try.f46 0) = true := by decide +kernel
theorem alikeStmt {a b : List Stm} {f : Stm → Stm → Bool} {g : Nat} {H : Heap} {v1 v2 : Value} (hl : a.length ≤ 100000) (hl2 : b.length ≤ 100000) (h1 : GT repStm H v1 a) (h2 : GT repStm H v2 b)
  (hf : ∀ (x y : Stm), x ∈ a → y ∈ b → ∀ K c1 c2, repStm.R K T0 x c1 → repStm.R K T0 y c2 → Gives ((run Try.prog E).call g [.agg ⟨c1⟩, .agg ⟨c2⟩] K) fun o K' => o = .val (.bool (f x y)) ∧ Same (fun _ => False) K K') :
  Gives ((run Try.prog E).call 46 [v1, v2, .func (.func g) #[] #[]] H) fun o H' => o = .val (.bool (allSame f a b)) ∧ Same (fun _ => False) H H' := by
 obtain ⟨b1, rfl⟩ := h1.slice
 obtain ⟨b2, rfl⟩ := h2.slice
 rw [c_alikeStmt hE, callB, bodyOf]
 simp [Try.f46, min_int]
 refine loop_wp (fun m t K => ∃ i : Nat, i + m = min a.length b.length ∧ rd t 13 = .int .i64 i ∧ rd t 12 = .int .i64 (min a.length b.length : Nat) ∧ Same (fun _ => False) H K ∧ ∀ j (h : j < a.length) (h' : j < b.length), j < i → f a[j] b[j] = true) (min a.length b.length) ?_ ?_
 · exact ⟨0, by omega, by simp, by simp, Same.refl _ _, fun j _ _ h => by omega⟩
 rintro m t K hk ⟨i, hm, g13, g12, kS, hj⟩
 have ht : t.length = 33 := hk.1.trans (by simp [len_Bs])
 have hh := hk.all [0, 1, 2] (by decide +kernel)
 simp at hh
 obtain ⟨u0, u1, u2⟩ := hh
 rcases Nat.lt_or_ge i (min a.length b.length) with hi | hi
 · have hia : i < a.length := by omega
   have hib : i < b.length := by omega
   obtain ⟨id1, tl1, cs1, rfl, -, -, p1, l1, r1⟩ := (h1.keep kS).at hia
   obtain ⟨id2, tl2, cs2, rfl, -, -, p2, l2, r2⟩ := (h2.keep kS).at hib
   obtain ⟨o, K', e3, rfl, k3⟩ := hf _ _ (List.getElem_mem hia) (List.getElem_mem hib) K _ _ r1 r2
   have hk0 : repStm.k = 8 := rfl
   rw [hk0] at p1 p2 l1 l2 e3
   have hw := wrap64 ((i : Int) + 1) (by omega) (by omega)
   simp [ht, u0, u1, u2, g13, g12, show (i : Int) < ((min a.length b.length : Nat) : Int) by omega]
   refine region_quiet (by exact q_alikeStmt) ?_
   by_cases hs : f a[i] b[i] = true
   · rw [hs] at e3
     simp [ht, u0, u1, u2, g13, g12, hia, hib, p1, p2, l1, l2, show i * 8 + 8 ≤ a.length * 8 by omega, show i * 8 + 8 ≤ b.length * 8 by omega, e3, hw]
     refine ⟨m - 1, by omega, i + 1, by omega, by simp [ht], kS.then0 k3, fun j h h' hlt => ?_⟩
     rcases Nat.lt_or_ge j i with h3 | h3
     · exact hj j h h' h3
     · obtain rfl : j = i := by omega
       exact hs
   · have hs' : f a[i] b[i] = false := by simpa using hs
     rw [hs'] at e3
     simp [ht, u0, u1, u2, g13, g12, hia, hib, p1, p2, l1, l2, show i * 8 + 8 ≤ a.length * 8 by omega, show i * 8 + 8 ≤ b.length * 8 by omega, e3]
     exact ⟨allSame_no i hia hib hs', kS.then0 k3⟩
 · simp [ht, u0, u1, u2, g13, g12, show ¬ (i : Int) < ((min a.length b.length : Nat) : Int) by omega]
   by_cases hlen : a.length = b.length
   · refine ⟨?_, kS⟩
     rw [allSame_at hlen fun j h h' => hj j h h' (by omega)]
     simp [hlen]
   · refine ⟨?_, kS⟩
     rw [allSame_ne hlen]
     simp; omega
theorem c_alikeExpr (args : List Value) (H : Heap) : (run Try.prog E).call 48 args H = callB Try.prog E Try.f48 args H := call_B Try.func48 rfl (by decide +kernel) (hE.no _ rfl rfl) args H
omit hE in
theorem q_alikeExpr : quiet Try.prog (drawN Try.f48 0) = true := by decide +kernel
theorem alikeExpr {a b : List Ex} {f : Ex → Ex → Bool} {g : Nat} {H : Heap} {v1 v2 : Value} (hl : a.length ≤ 100000) (hl2 : b.length ≤ 100000) (h1 : GT repEx H v1 a) (h2 : GT repEx H v2 b)
  (hf : ∀ (x y : Ex), x ∈ a → y ∈ b → ∀ K c1 c2, repEx.R K T0 x c1 → repEx.R K T0 y c2 → Gives ((run Try.prog E).call g [.agg ⟨c1⟩, .agg ⟨c2⟩] K) fun o K' => o = .val (.bool (f x y)) ∧ Same (fun _ => False) K K') :
  Gives ((run Try.prog E).call 48 [v1, v2, .func (.func g) #[] #[]] H) fun o H' => o = .val (.bool (allSame f a b)) ∧ Same (fun _ => False) H H' := by
 obtain ⟨b1, rfl⟩ := h1.slice
 obtain ⟨b2, rfl⟩ := h2.slice
 rw [c_alikeExpr hE, callB, bodyOf]
 simp [Try.f48, min_int]
 refine loop_wp (fun m t K => ∃ i : Nat, i + m = min a.length b.length ∧ rd t 13 = .int .i64 i ∧ rd t 12 = .int .i64 (min a.length b.length : Nat) ∧ Same (fun _ => False) H K ∧ ∀ j (h : j < a.length) (h' : j < b.length), j < i → f a[j] b[j] = true) (min a.length b.length) ?_ ?_
 · exact ⟨0, by omega, by simp, by simp, Same.refl _ _, fun j _ _ h => by omega⟩
 rintro m t K hk ⟨i, hm, g13, g12, kS, hj⟩
 have ht : t.length = 33 := hk.1.trans (by simp [len_Bs])
 have hh := hk.all [0, 1, 2] (by decide +kernel)
 simp at hh
 obtain ⟨u0, u1, u2⟩ := hh
 rcases Nat.lt_or_ge i (min a.length b.length) with hi | hi
 · have hia : i < a.length := by omega
   have hib : i < b.length := by omega
   obtain ⟨id1, tl1, cs1, rfl, -, -, p1, l1, r1⟩ := (h1.keep kS).at hia
   obtain ⟨id2, tl2, cs2, rfl, -, -, p2, l2, r2⟩ := (h2.keep kS).at hib
   obtain ⟨o, K', e3, rfl, k3⟩ := hf _ _ (List.getElem_mem hia) (List.getElem_mem hib) K _ _ r1 r2
   have hk0 : repEx.k = 6 := rfl
   rw [hk0] at p1 p2 l1 l2 e3
   have hw := wrap64 ((i : Int) + 1) (by omega) (by omega)
   simp [ht, u0, u1, u2, g13, g12, show (i : Int) < ((min a.length b.length : Nat) : Int) by omega]
   refine region_quiet (by exact q_alikeExpr) ?_
   by_cases hs : f a[i] b[i] = true
   · rw [hs] at e3
     simp [ht, u0, u1, u2, g13, g12, hia, hib, p1, p2, l1, l2, show i * 6 + 6 ≤ a.length * 6 by omega, show i * 6 + 6 ≤ b.length * 6 by omega, e3, hw]
     refine ⟨m - 1, by omega, i + 1, by omega, by simp [ht], kS.then0 k3, fun j h h' hlt => ?_⟩
     rcases Nat.lt_or_ge j i with h3 | h3
     · exact hj j h h' h3
     · obtain rfl : j = i := by omega
       exact hs
   · have hs' : f a[i] b[i] = false := by simpa using hs
     rw [hs'] at e3
     simp [ht, u0, u1, u2, g13, g12, hia, hib, p1, p2, l1, l2, show i * 6 + 6 ≤ a.length * 6 by omega, show i * 6 + 6 ≤ b.length * 6 by omega, e3]
     exact ⟨allSame_no i hia hib hs', kS.then0 k3⟩
 · simp [ht, u0, u1, u2, g13, g12, show ¬ (i : Int) < ((min a.length b.length : Nat) : Int) by omega]
   by_cases hlen : a.length = b.length
   · refine ⟨?_, kS⟩
     rw [allSame_at hlen fun j h h' => hj j h h' (by omega)]
     simp [hlen]
   · refine ⟨?_, kS⟩
     rw [allSame_ne hlen]
     simp; omega
theorem c_alikeIdent (args : List Value) (H : Heap) : (run Try.prog E).call 60 args H = callB Try.prog E Try.f60 args H := call_B Try.func60 rfl (by decide +kernel) (hE.no _ rfl rfl) args H
omit hE in
theorem q_alikeIdent : quiet Try.prog (drawN Try.f60 0) = true := by decide +kernel
theorem alikeIdent {a b : List Idn} {f : Idn → Idn → Bool} {g : Nat} {H : Heap} {v1 v2 : Value} (hl : a.length ≤ 100000) (hl2 : b.length ≤ 100000) (h1 : GT repIdn H v1 a) (h2 : GT repIdn H v2 b)
  (hf : ∀ (x y : Idn), x ∈ a → y ∈ b → ∀ K c1 c2, repIdn.R K T0 x c1 → repIdn.R K T0 y c2 → Gives ((run Try.prog E).call g [.agg ⟨c1⟩, .agg ⟨c2⟩] K) fun o K' => o = .val (.bool (f x y)) ∧ Same (fun _ => False) K K') :
  Gives ((run Try.prog E).call 60 [v1, v2, .func (.func g) #[] #[]] H) fun o H' => o = .val (.bool (allSame f a b)) ∧ Same (fun _ => False) H H' := by
 obtain ⟨b1, rfl⟩ := h1.slice
 obtain ⟨b2, rfl⟩ := h2.slice
 rw [c_alikeIdent hE, callB, bodyOf]
 simp [Try.f60, min_int]
 refine loop_wp (fun m t K => ∃ i : Nat, i + m = min a.length b.length ∧ rd t 13 = .int .i64 i ∧ rd t 12 = .int .i64 (min a.length b.length : Nat) ∧ Same (fun _ => False) H K ∧ ∀ j (h : j < a.length) (h' : j < b.length), j < i → f a[j] b[j] = true) (min a.length b.length) ?_ ?_
 · exact ⟨0, by omega, by simp, by simp, Same.refl _ _, fun j _ _ h => by omega⟩
 rintro m t K hk ⟨i, hm, g13, g12, kS, hj⟩
 have ht : t.length = 33 := hk.1.trans (by simp [len_Bs])
 have hh := hk.all [0, 1, 2] (by decide +kernel)
 simp at hh
 obtain ⟨u0, u1, u2⟩ := hh
 rcases Nat.lt_or_ge i (min a.length b.length) with hi | hi
 · have hia : i < a.length := by omega
   have hib : i < b.length := by omega
   obtain ⟨id1, tl1, cs1, rfl, -, -, p1, l1, r1⟩ := (h1.keep kS).at hia
   obtain ⟨id2, tl2, cs2, rfl, -, -, p2, l2, r2⟩ := (h2.keep kS).at hib
   obtain ⟨o, K', e3, rfl, k3⟩ := hf _ _ (List.getElem_mem hia) (List.getElem_mem hib) K _ _ r1 r2
   have hk0 : repIdn.k = 2 := rfl
   rw [hk0] at p1 p2 l1 l2 e3
   have hw := wrap64 ((i : Int) + 1) (by omega) (by omega)
   simp [ht, u0, u1, u2, g13, g12, show (i : Int) < ((min a.length b.length : Nat) : Int) by omega]
   refine region_quiet (by exact q_alikeIdent) ?_
   by_cases hs : f a[i] b[i] = true
   · rw [hs] at e3
     simp [ht, u0, u1, u2, g13, g12, hia, hib, p1, p2, l1, l2, show i * 2 + 2 ≤ a.length * 2 by omega, show i * 2 + 2 ≤ b.length * 2 by omega, e3, hw]
     refine ⟨m - 1, by omega, i + 1, by omega, by simp [ht], kS.then0 k3, fun j h h' hlt => ?_⟩
     rcases Nat.lt_or_ge j i with h3 | h3
     · exact hj j h h' h3
     · obtain rfl : j = i := by omega
       exact hs
   · have hs' : f a[i] b[i] = false := by simpa using hs
     rw [hs'] at e3
     simp [ht, u0, u1, u2, g13, g12, hia, hib, p1, p2, l1, l2, show i * 2 + 2 ≤ a.length * 2 by omega, show i * 2 + 2 ≤ b.length * 2 by omega, e3]
     exact ⟨allSame_no i hia hib hs', kS.then0 k3⟩
 · simp [ht, u0, u1, u2, g13, g12, show ¬ (i : Int) < ((min a.length b.length : Nat) : Int) by omega]
   by_cases hlen : a.length = b.length
   · refine ⟨?_, kS⟩
     rw [allSame_at hlen fun j h h' => hj j h h' (by omega)]
     simp [hlen]
   · refine ⟨?_, kS⟩
     rw [allSame_ne hlen]
     simp; omega
theorem c_alikeBranch (args : List Value) (H : Heap) : (run Try.prog E).call 66 args H = callB Try.prog E Try.f66 args H := call_B Try.func66 rfl (by decide +kernel) (hE.no _ rfl rfl) args H
omit hE in
theorem q_alikeBranch : quiet Try.prog (drawN Try.f66 0) = true := by decide +kernel
theorem alikeBranch {a b : List Bra} {f : Bra → Bra → Bool} {g : Nat} {H : Heap} {v1 v2 : Value} (hl : a.length ≤ 100000) (hl2 : b.length ≤ 100000) (h1 : GT repBra H v1 a) (h2 : GT repBra H v2 b)
  (hf : ∀ (x y : Bra), x ∈ a → y ∈ b → ∀ K c1 c2, repBra.R K T0 x c1 → repBra.R K T0 y c2 → Gives ((run Try.prog E).call g [.agg ⟨c1⟩, .agg ⟨c2⟩] K) fun o K' => o = .val (.bool (f x y)) ∧ Same (fun _ => False) K K') :
  Gives ((run Try.prog E).call 66 [v1, v2, .func (.func g) #[] #[]] H) fun o H' => o = .val (.bool (allSame f a b)) ∧ Same (fun _ => False) H H' := by
 obtain ⟨b1, rfl⟩ := h1.slice
 obtain ⟨b2, rfl⟩ := h2.slice
 rw [c_alikeBranch hE, callB, bodyOf]
 simp [Try.f66, min_int]
 refine loop_wp (fun m t K => ∃ i : Nat, i + m = min a.length b.length ∧ rd t 13 = .int .i64 i ∧ rd t 12 = .int .i64 (min a.length b.length : Nat) ∧ Same (fun _ => False) H K ∧ ∀ j (h : j < a.length) (h' : j < b.length), j < i → f a[j] b[j] = true) (min a.length b.length) ?_ ?_
 · exact ⟨0, by omega, by simp, by simp, Same.refl _ _, fun j _ _ h => by omega⟩
 rintro m t K hk ⟨i, hm, g13, g12, kS, hj⟩
 have ht : t.length = 33 := hk.1.trans (by simp [len_Bs])
 have hh := hk.all [0, 1, 2] (by decide +kernel)
 simp at hh
 obtain ⟨u0, u1, u2⟩ := hh
 rcases Nat.lt_or_ge i (min a.length b.length) with hi | hi
 · have hia : i < a.length := by omega
   have hib : i < b.length := by omega
   obtain ⟨id1, tl1, cs1, rfl, -, -, p1, l1, r1⟩ := (h1.keep kS).at hia
   obtain ⟨id2, tl2, cs2, rfl, -, -, p2, l2, r2⟩ := (h2.keep kS).at hib
   obtain ⟨o, K', e3, rfl, k3⟩ := hf _ _ (List.getElem_mem hia) (List.getElem_mem hib) K _ _ r1 r2
   have hk0 : repBra.k = 4 := rfl
   rw [hk0] at p1 p2 l1 l2 e3
   have hw := wrap64 ((i : Int) + 1) (by omega) (by omega)
   simp [ht, u0, u1, u2, g13, g12, show (i : Int) < ((min a.length b.length : Nat) : Int) by omega]
   refine region_quiet (by exact q_alikeBranch) ?_
   by_cases hs : f a[i] b[i] = true
   · rw [hs] at e3
     simp [ht, u0, u1, u2, g13, g12, hia, hib, p1, p2, l1, l2, show i * 4 + 4 ≤ a.length * 4 by omega, show i * 4 + 4 ≤ b.length * 4 by omega, e3, hw]
     refine ⟨m - 1, by omega, i + 1, by omega, by simp [ht], kS.then0 k3, fun j h h' hlt => ?_⟩
     rcases Nat.lt_or_ge j i with h3 | h3
     · exact hj j h h' h3
     · obtain rfl : j = i := by omega
       exact hs
   · have hs' : f a[i] b[i] = false := by simpa using hs
     rw [hs'] at e3
     simp [ht, u0, u1, u2, g13, g12, hia, hib, p1, p2, l1, l2, show i * 4 + 4 ≤ a.length * 4 by omega, show i * 4 + 4 ≤ b.length * 4 by omega, e3]
     exact ⟨allSame_no i hia hib hs', kS.then0 k3⟩
 · simp [ht, u0, u1, u2, g13, g12, show ¬ (i : Int) < ((min a.length b.length : Nat) : Int) by omega]
   by_cases hlen : a.length = b.length
   · refine ⟨?_, kS⟩
     rw [allSame_at hlen fun j h h' => hj j h h' (by omega)]
     simp [hlen]
   · refine ⟨?_, kS⟩
     rw [allSame_ne hlen]
     simp; omega
end
theorem sz_mem {l : List Ex} {e : Ex} (h : e ∈ l) : szX e ≤ szXs l := by
 induction l with
 | nil => cases h
 | cons a l ih =>
  simp only [szXs]
  rcases List.mem_cons.1 h with rfl | h
  · omega
  · have := ih h; omega
theorem szs_mem {l : List Stm} {e : Stm} (h : e ∈ l) : szS e ≤ szSs l := by
 induction l with
 | nil => cases h
 | cons a l ih =>
  simp only [szSs]
  rcases List.mem_cons.1 h with rfl | h
  · omega
  · have := ih h; omega
theorem szb_mem {l : List Bra} {e : Bra} (h : e ∈ l) : szB e ≤ szBs l := by
 induction l with
 | nil => cases h
 | cons a l ih =>
  simp only [szBs]
  rcases List.mem_cons.1 h with rfl | h
  · omega
  · have := ih h; omega
theorem szBs_len : ∀ l : List Bra, l.length ≤ szBs l
 | [] => by simp
 | e :: l => by have := szBs_len l; simp only [szBs, List.length_cons, szB]; omega
section
variable {E : Hooks} (hE : Plain E)
include hE
end
theorem z_stm : zeroT Try.prog 81 = some (.agg ⟨[.int .i64 0, .int .i64 0, .string ByteArray.empty, .slice none 0 0, .slice none 0 0, .slice none 0 0, .slice none 0 0, .slice none 0 0]⟩) := by kernel_rfl
theorem z_bra : zeroT Try.prog 116 = some (.agg ⟨[.int .i64 0, .string ByteArray.empty, .slice none 0 0, .slice none 0 0]⟩) := by kernel_rfl
theorem z_prc : zeroT Try.prog 42 = some (.agg ⟨[.int .i64 0, .string ByteArray.empty, .slice none 0 0, .slice none 0 0, .slice none 0 0]⟩) := by kernel_rfl
section
variable {E : Hooks} (hE : Plain E)
include hE
omit hE in
def StmtsOK (E : Hooks) (f : FuncId) (a : List Stm) : Prop := ∀ b, szSs b ≤ 90000 → ∀ H v1 v2, GT repStm H v1 a → GT repStm H v2 b →
  Gives ((run Try.prog E).call f [v1, v2] H) fun o H' => o = .val (.bool (allSame sameS a b)) ∧ Same (fun _ => False) H H'
end
structure SrcSz (s : Src) : Prop where
 d : s.decls.length ≤ 90000
 p : szPs s.procs ≤ 90000
 c : s.claims.length ≤ 90000
 b : szSs s.body ≤ 90000
section
variable {E : Hooks} (hE : Plain E)
include hE
end
theorem two_push (H : Heap) (A B : List Value) : ((H.push (.row true 0 1 A)).push (.row true 0 1 B)).get H.n = .row true 0 1 A ∧ ((H.push (.row true 0 1 A)).push (.row true 0 1 B)).get (H.n + 1) = .row true 0 1 B ∧ Same (fun _ => False) H ((H.push (.row true 0 1 A)).push (.row true 0 1 B)) :=
 ⟨by rw [Heap.get_push, if_neg (by simp), Heap.get_push_self], Heap.get_push_self _ _, (Same.push _ _ _).then_push _⟩
section
variable {E : Hooks} (hE : Plain E)
include hE
theorem c_tSameExpr (args : List Value) (H : Heap) : (run Try.prog E).call 15 args H = callB Try.prog E Try.f15 args H := call_B Try.func15 rfl (by decide +kernel) (hE.no _ rfl rfl) args H
theorem c_tsameItem (args : List Value) (H : Heap) : (run Try.prog E).call 41 args H = callB Try.prog E Try.f41 args H := call_B Try.func41 rfl (by decide +kernel) (hE.no _ rfl rfl) args H
theorem c_tsameIdent (args : List Value) (H : Heap) : (run Try.prog E).call 61 args H = callB Try.prog E Try.f61 args H := call_B Try.func61 rfl (by decide +kernel) (hE.no _ rfl rfl) args H
theorem c_tsameDecl (args : List Value) (H : Heap) : (run Try.prog E).call 37 args H = callB Try.prog E Try.f37 args H := call_B Try.func37 rfl (by decide +kernel) (hE.no _ rfl rfl) args H
theorem c_tsameBranch (args : List Value) (H : Heap) : (run Try.prog E).call 67 args H = callB Try.prog E Try.f67 args H := call_B Try.func67 rfl (by decide +kernel) (hE.no _ rfl rfl) args H
theorem c_tsameStmt (args : List Value) (H : Heap) : (run Try.prog E).call 47 args H = callB Try.prog E Try.f47 args H := call_B Try.func47 rfl (by decide +kernel) (hE.no _ rfl rfl) args H
theorem c_tSameStmts (args : List Value) (H : Heap) : (run Try.prog E).call 14 args H = callB Try.prog E Try.f14 args H := call_B Try.func14 rfl (by decide +kernel) (hE.no _ rfl rfl) args H
theorem c_tsameProc (args : List Value) (H : Heap) : (run Try.prog E).call 39 args H = callB Try.prog E Try.f39 args H := call_B Try.func39 rfl (by decide +kernel) (hE.no _ rfl rfl) args H
theorem c_tSame (args : List Value) (H : Heap) : (run Try.prog E).call 12 args H = callB Try.prog E Try.f12 args H := call_B Try.func12 rfl (by decide +kernel) (hE.no _ rfl rfl) args H
theorem pExpr : ∀ n x, szX x < n → szX x ≤ 90000 → ∀ y, szX y ≤ 90000 → ∀ H c1 c2, RE H T0 x c1 → RE H T0 y c2 →
  Gives ((run Try.prog E).call 15 [.agg ⟨c1⟩, .agg ⟨c2⟩] H) fun o H' => o = .val (.bool (sameE x y)) ∧ Same (fun _ => False) H H' := by
 intro n
 induction n with
 | zero => intro x h; omega
 | succ n ih =>
  intro x hn hx y hy H c1 c2 h1 h2
  cases x with
  | mk k1 a1 m1 o1 x1 s1 =>
  cases y with
  | mk k2 a2 m2 o2 x2 s2 =>
  obtain ⟨b1, rfl, G1⟩ := ex_parts h1
  obtain ⟨b2, rfl, G2⟩ := ex_parts h2
  simp only [szX] at hn hx hy
  have ls := szXs_len s1
  have ls' := szXs_len s2
  simp only [sameE, sameEs_eq]
  rw [c_tSameExpr hE, callB, bodyOf]
  obtain ⟨z1, z2, S0⟩ := two_push H [.int .i64 k1, .int .i64 a1, .int .i64 m1, .int .i64 o1, .string x1, .slice b1 s1.length s1.length] [.int .i64 k2, .int .i64 a2, .int .i64 m2, .int .i64 o2, .string x2, .slice b2 s2.length s2.length]
  simp [Try.f15]
  generalize hHb : (H.push (.row true 0 1 [.int .i64 k1, .int .i64 a1, .int .i64 m1, .int .i64 o1, .string x1, .slice b1 s1.length s1.length])).push (.row true 0 1 [.int .i64 k2, .int .i64 a2, .int .i64 m2, .int .i64 o2, .string x2, .slice b2 s2.length s2.length]) = Hb at *
  by_cases d0 : ¬ k1 = k2
  · simp [z1, z2, d0]
    first | exact S0 | exact ⟨by simp [sameE, d0], S0⟩
  have d0 : k1 = k2 := Classical.not_not.1 d0
  by_cases d1 : ¬ m1 = m2
  · simp [z1, z2, d0, d1]
    first | exact S0 | exact ⟨by simp [sameE, d1], S0⟩
  have d1 : m1 = m2 := Classical.not_not.1 d1
  by_cases d2 : ¬ o1 = o2
  · simp [z1, z2, d0, d1, d2]
    first | exact S0 | exact ⟨by simp [sameE, d2], S0⟩
  have d2 : o1 = o2 := Classical.not_not.1 d2
  by_cases d3 : ¬ x1 = x2
  · simp [z1, z2, d0, d1, d2, d3]
    first | exact S0 | exact ⟨by simp [sameE, d3], S0⟩
  have d3 : x1 = x2 := Classical.not_not.1 d3
  obtain ⟨o, K1, e1, rfl, k1⟩ := alikeExpr hE (by omega) (by omega) (G1.keep S0) (G2.keep S0) fun x y hx hy K c1 c2 r1 r2 => ih x (by have := sz_mem hx; omega) (by have := sz_mem hx; omega) y (by have := sz_mem hy; omega) K c1 c2 r1 r2
  have y11 := k1.at z1 (by simp) fun h => h
  have y12 := k1.at z2 (by simp) fun h => h
  cases b1 : allSame sameE s1 s2 with
  | false =>
   rw [b1] at e1
   simp [z1, z2, d0, d1, d2, d3, e1]
   first | exact S0.trans k1 | exact ⟨by simp [sameE, b1], S0.trans k1⟩
  | true =>
  rw [b1] at e1
  simp [z1, z2, d0, d1, d2, d3, e1, y11, y12]
  first | exact (S0.trans k1) | exact ⟨by simp [sameE, d0, d1, d2, d3, b1], (S0.trans k1)⟩
theorem pItem (x y : Itm) {H : Heap} {c1 c2 : List Value} (h1 : c1 = [.int .i64 x.at_, .string x.name, .int .i64 x.n]) (h2 : c2 = [.int .i64 y.at_, .string y.name, .int .i64 y.n]) :
  Gives ((run Try.prog E).call 41 [.agg ⟨c1⟩, .agg ⟨c2⟩] H) fun o H' => o = .val (.bool (sameI x y)) ∧ Same (fun _ => False) H H' := by
 subst h1 h2
 rw [c_tsameItem hE, callB, bodyOf]
 obtain ⟨z1, z2, S0⟩ := two_push H [.int .i64 x.at_, .string x.name, .int .i64 x.n] [.int .i64 y.at_, .string y.name, .int .i64 y.n]
 simp [Try.f41]
 generalize hHb : (H.push (.row true 0 1 [.int .i64 x.at_, .string x.name, .int .i64 x.n])).push (.row true 0 1 [.int .i64 y.at_, .string y.name, .int .i64 y.n]) = Hb at *
 by_cases d0 : ¬ x.name = y.name
 · simp [z1, z2, d0]
   first | exact S0 | exact ⟨by simp [sameI, d0], S0⟩
 have d0 : x.name = y.name := Classical.not_not.1 d0
 by_cases d1 : ¬ x.n = y.n
 · simp [z1, z2, d0, d1]
   first | exact S0 | exact ⟨by simp [sameI, d1], S0⟩
 have d1 : x.n = y.n := Classical.not_not.1 d1
 simp [z1, z2, d0, d1]
 first | exact S0 | exact ⟨by simp [sameI, d0, d1], S0⟩
theorem pIdent (x y : Idn) {H : Heap} {c1 c2 : List Value} (h1 : c1 = [.int .i64 x.at_, .string x.name]) (h2 : c2 = [.int .i64 y.at_, .string y.name]) :
  Gives ((run Try.prog E).call 61 [.agg ⟨c1⟩, .agg ⟨c2⟩] H) fun o H' => o = .val (.bool (sameN x y)) ∧ Same (fun _ => False) H H' := by
 subst h1 h2
 rw [c_tsameIdent hE, callB, bodyOf]
 obtain ⟨z1, z2, S0⟩ := two_push H [.int .i64 x.at_, .string x.name] [.int .i64 y.at_, .string y.name]
 simp [Try.f61]
 generalize hHb : (H.push (.row true 0 1 [.int .i64 x.at_, .string x.name])).push (.row true 0 1 [.int .i64 y.at_, .string y.name]) = Hb at *
 by_cases d0 : ¬ x.name = y.name
 · simp [z1, z2, d0]
   first | exact S0 | exact ⟨by simp [sameN, d0], S0⟩
 have d0 : x.name = y.name := Classical.not_not.1 d0
 simp [z1, z2, d0]
 first | exact S0 | exact ⟨by simp [sameN, d0], S0⟩
theorem pDecl (x y : Dcl) {H : Heap} {c1 c2 : List Value} (h1 : c1 = [.int .i64 x.kind, .int .i64 x.at_, .string x.name, .int .i64 x.n]) (h2 : c2 = [.int .i64 y.kind, .int .i64 y.at_, .string y.name, .int .i64 y.n]) :
  Gives ((run Try.prog E).call 37 [.agg ⟨c1⟩, .agg ⟨c2⟩] H) fun o H' => o = .val (.bool (sameD x y)) ∧ Same (fun _ => False) H H' := by
 subst h1 h2
 rw [c_tsameDecl hE, callB, bodyOf]
 obtain ⟨z1, z2, S0⟩ := two_push H [.int .i64 x.kind, .int .i64 x.at_, .string x.name, .int .i64 x.n] [.int .i64 y.kind, .int .i64 y.at_, .string y.name, .int .i64 y.n]
 simp [Try.f37]
 generalize hHb : (H.push (.row true 0 1 [.int .i64 x.kind, .int .i64 x.at_, .string x.name, .int .i64 x.n])).push (.row true 0 1 [.int .i64 y.kind, .int .i64 y.at_, .string y.name, .int .i64 y.n]) = Hb at *
 by_cases d0 : ¬ x.kind = y.kind
 · simp [z1, z2, d0]
   first | exact S0 | exact ⟨by simp [sameD, d0], S0⟩
 have d0 : x.kind = y.kind := Classical.not_not.1 d0
 by_cases d1 : ¬ x.name = y.name
 · simp [z1, z2, d0, d1]
   first | exact S0 | exact ⟨by simp [sameD, d1], S0⟩
 have d1 : x.name = y.name := Classical.not_not.1 d1
 by_cases d2 : ¬ x.n = y.n
 · simp [z1, z2, d0, d1, d2]
   first | exact S0 | exact ⟨by simp [sameD, d2], S0⟩
 have d2 : x.n = y.n := Classical.not_not.1 d2
 simp [z1, z2, d0, d1, d2]
 first | exact S0 | exact ⟨by simp [sameD, d0, d1, d2], S0⟩
theorem pBranch (x y : Bra) (hx : szB x ≤ 90000) (hy : szB y ≤ 90000) {H : Heap} {c1 c2 : List Value} (h1 : repBra.R H T0 x c1) (h2 : repBra.R H T0 y c2) :
  Gives ((run Try.prog E).call 67 [.agg ⟨c1⟩, .agg ⟨c2⟩] H) fun o H' => o = .val (.bool (sameB x y)) ∧ Same (fun _ => False) H H' := by
 obtain ⟨u1, u2, rfl, G1, G2⟩ := br_parts h1
 obtain ⟨w1, w2, rfl, F1, F2⟩ := br_parts h2
 simp only [szB] at hx hy
 have l1 := szXs_len x.args
 have l2 := szXs_len y.args
 rw [c_tsameBranch hE, callB, bodyOf]
 obtain ⟨z1, z2, S0⟩ := two_push H [.int .i64 x.at_, .string x.name, .slice u1 x.args.length x.args.length, .slice u2 x.claims.length x.claims.length] [.int .i64 y.at_, .string y.name, .slice w1 y.args.length y.args.length, .slice w2 y.claims.length y.claims.length]
 simp [Try.f67]
 generalize hHb : (H.push (.row true 0 1 [.int .i64 x.at_, .string x.name, .slice u1 x.args.length x.args.length, .slice u2 x.claims.length x.claims.length])).push (.row true 0 1 [.int .i64 y.at_, .string y.name, .slice w1 y.args.length y.args.length, .slice w2 y.claims.length y.claims.length]) = Hb at *
 by_cases d0 : ¬ x.name = y.name
 · simp [z1, z2, d0]
   first | exact S0 | exact ⟨by simp [sameB, d0], S0⟩
 have d0 : x.name = y.name := Classical.not_not.1 d0
 obtain ⟨o, K1, e1, rfl, k1⟩ := alikeExpr hE (by omega) (by omega) (G1.keep S0) (F1.keep S0) fun x y hx hy K c1 c2 r1 r2 => pExpr hE _ x (Nat.lt_succ_self _) (by have := sz_mem hx; omega) y (by have := sz_mem hy; omega) K c1 c2 r1 r2
 have y11 := k1.at z1 (by simp) fun h => h
 have y12 := k1.at z2 (by simp) fun h => h
 cases b1 : allSame sameE x.args y.args with
 | false =>
  rw [b1] at e1
  simp [z1, z2, d0, e1]
  first | exact S0.trans k1 | exact ⟨by simp [sameB, b1], S0.trans k1⟩
 | true =>
 rw [b1] at e1
 obtain ⟨o, K2, e2, rfl, k2⟩ := alikeItem hE (by omega) (by omega) ((G2.keep S0).keep k1) ((F2.keep S0).keep k1) fun x y _ _ K c1 c2 r1 r2 => pItem hE x y r1 r2
 have y21 := k2.at y11 (by simp) fun h => h
 have y22 := k2.at y12 (by simp) fun h => h
 cases b2 : allSame sameI x.claims y.claims with
 | false =>
  rw [b2] at e2
  simp [z1, z2, d0, e1, y11, y12, e2]
  first | exact (S0.trans k1).trans k2 | exact ⟨by simp [sameB, b2], (S0.trans k1).trans k2⟩
 | true =>
 rw [b2] at e2
 simp [z1, z2, d0, e1, y11, y12, e2, y21, y22]
 first | exact ((S0.trans k1).trans k2) | exact ⟨by simp [sameB, d0, b1, b2], ((S0.trans k1).trans k2)⟩
theorem pStmt (n : Nat) (ih : ∀ a, szSs a < n → szSs a ≤ 90000 → StmtsOK E 14 a) (x y : Stm) (hn : szS x < n + 1) (hx : szS x ≤ 90000) (hy : szS y ≤ 90000) {H : Heap} {c1 c2 : List Value} (h1 : RS H T0 x c1) (h2 : RS H T0 y c2) :
  Gives ((run Try.prog E).call 47 [.agg ⟨c1⟩, .agg ⟨c2⟩] H) fun o H' => o = .val (.bool (sameS x y)) ∧ Same (fun _ => False) H H' := by
 cases x with
 | mk k1 a1 x1 e1e bd1 el1 br1 it1 =>
 cases y with
 | mk k2 a2 x2 e2e bd2 el2 br2 it2 =>
 obtain ⟨w1, w2, w3, w4, w5, rfl, G1, G2, G3, G4, G5⟩ := st_parts h1
 obtain ⟨y1, y2, y3, y4, y5, rfl, F1, F2, F3, F4, F5⟩ := st_parts h2
 simp only [szS] at hn hx hy
 have l1 := szXs_len e1e; have l2 := szXs_len e2e
 have l3 := szBs_len br1; have l4 := szBs_len br2
 rw [c_tsameStmt hE, callB, bodyOf]
 obtain ⟨z1, z2, S0⟩ := two_push H [.int .i64 k1, .int .i64 a1, .string x1, .slice w1 e1e.length e1e.length, .slice w2 bd1.length bd1.length, .slice w3 el1.length el1.length, .slice w4 br1.length br1.length, .slice w5 it1.length it1.length] [.int .i64 k2, .int .i64 a2, .string x2, .slice y1 e2e.length e2e.length, .slice y2 bd2.length bd2.length, .slice y3 el2.length el2.length, .slice y4 br2.length br2.length, .slice y5 it2.length it2.length]
 simp [Try.f47]
 generalize hHb : (H.push (.row true 0 1 [.int .i64 k1, .int .i64 a1, .string x1, .slice w1 e1e.length e1e.length, .slice w2 bd1.length bd1.length, .slice w3 el1.length el1.length, .slice w4 br1.length br1.length, .slice w5 it1.length it1.length])).push (.row true 0 1 [.int .i64 k2, .int .i64 a2, .string x2, .slice y1 e2e.length e2e.length, .slice y2 bd2.length bd2.length, .slice y3 el2.length el2.length, .slice y4 br2.length br2.length, .slice y5 it2.length it2.length]) = Hb at *
 by_cases d0 : ¬ k1 = k2
 · simp [z1, z2, d0]
   first | exact S0 | exact ⟨by simp [sameS, sameSs_eq, d0], S0⟩
 have d0 : k1 = k2 := Classical.not_not.1 d0
 by_cases d1 : ¬ x1 = x2
 · simp [z1, z2, d0, d1]
   first | exact S0 | exact ⟨by simp [sameS, sameSs_eq, d1], S0⟩
 have d1 : x1 = x2 := Classical.not_not.1 d1
 obtain ⟨o, K1, e1, rfl, k1⟩ := alikeExpr hE (by omega) (by omega) (G1.keep S0) (F1.keep S0) fun x y hx hy K c1 c2 r1 r2 => pExpr hE _ x (Nat.lt_succ_self _) (by have := sz_mem hx; omega) y (by have := sz_mem hy; omega) K c1 c2 r1 r2
 have y11 := k1.at z1 (by simp) fun h => h
 have y12 := k1.at z2 (by simp) fun h => h
 cases b1 : allSame sameE e1e e2e with
 | false =>
  rw [b1] at e1
  simp [z1, z2, d0, d1, e1]
  first | exact S0.trans k1 | exact ⟨by simp [sameS, sameSs_eq, b1], S0.trans k1⟩
 | true =>
 rw [b1] at e1
 obtain ⟨o, K2, e2, rfl, k2⟩ := ih bd1 (by omega) (by omega) bd2 (by omega) K1 _ _ ((G2.keep S0).keep k1) ((F2.keep S0).keep k1)
 have y21 := k2.at y11 (by simp) fun h => h
 have y22 := k2.at y12 (by simp) fun h => h
 cases b2 : allSame sameS bd1 bd2 with
 | false =>
  rw [b2] at e2
  simp [z1, z2, d0, d1, e1, y11, y12, e2]
  first | exact (S0.trans k1).trans k2 | exact ⟨by simp [sameS, sameSs_eq, b2], (S0.trans k1).trans k2⟩
 | true =>
 rw [b2] at e2
 obtain ⟨o, K3, e3, rfl, k3⟩ := ih el1 (by omega) (by omega) el2 (by omega) K2 _ _ (((G3.keep S0).keep k1).keep k2) (((F3.keep S0).keep k1).keep k2)
 have y31 := k3.at y21 (by simp) fun h => h
 have y32 := k3.at y22 (by simp) fun h => h
 cases b3 : allSame sameS el1 el2 with
 | false =>
  rw [b3] at e3
  simp [z1, z2, d0, d1, e1, y11, y12, e2, y21, y22, e3]
  first | exact ((S0.trans k1).trans k2).trans k3 | exact ⟨by simp [sameS, sameSs_eq, b3], ((S0.trans k1).trans k2).trans k3⟩
 | true =>
 rw [b3] at e3
 obtain ⟨o, K4, e4, rfl, k4⟩ := alikeBranch hE (by omega) (by omega) ((((G4.keep S0).keep k1).keep k2).keep k3) ((((F4.keep S0).keep k1).keep k2).keep k3) fun x y hx hy K c1 c2 r1 r2 => pBranch hE x y (by have := szb_mem hx; omega) (by have := szb_mem hy; omega) r1 r2
 have y41 := k4.at y31 (by simp) fun h => h
 have y42 := k4.at y32 (by simp) fun h => h
 cases b4 : allSame sameB br1 br2 with
 | false =>
  rw [b4] at e4
  simp [z1, z2, d0, d1, e1, y11, y12, e2, y21, y22, e3, y31, y32, e4]
  first | exact (((S0.trans k1).trans k2).trans k3).trans k4 | exact ⟨by simp [sameS, sameSs_eq, b4], (((S0.trans k1).trans k2).trans k3).trans k4⟩
 | true =>
 rw [b4] at e4
 obtain ⟨o, K5, e5, rfl, k5⟩ := alikeItem hE (by omega) (by omega) (((((G5.keep S0).keep k1).keep k2).keep k3).keep k4) (((((F5.keep S0).keep k1).keep k2).keep k3).keep k4) fun x y _ _ K c1 c2 r1 r2 => pItem hE x y r1 r2
 have y51 := k5.at y41 (by simp) fun h => h
 have y52 := k5.at y42 (by simp) fun h => h
 cases b5 : allSame sameI it1 it2 with
 | false =>
  rw [b5] at e5
  simp [z1, z2, d0, d1, e1, y11, y12, e2, y21, y22, e3, y31, y32, e4, y41, y42, e5]
  first | exact ((((S0.trans k1).trans k2).trans k3).trans k4).trans k5 | exact ⟨by simp [sameS, sameSs_eq, b5], ((((S0.trans k1).trans k2).trans k3).trans k4).trans k5⟩
 | true =>
 rw [b5] at e5
 simp [z1, z2, d0, d1, e1, y11, y12, e2, y21, y22, e3, y31, y32, e4, y41, y42, e5, y51, y52]
 first | exact (((((S0.trans k1).trans k2).trans k3).trans k4).trans k5) | exact ⟨by simp [sameS, sameSs_eq, d0, d1, b1, b2, b3, b4, b5], (((((S0.trans k1).trans k2).trans k3).trans k4).trans k5)⟩
theorem pStmts : ∀ n a, szSs a < n → szSs a ≤ 90000 → StmtsOK E 14 a := by
 intro n
 induction n with
 | zero => intro a h; omega
 | succ n ih =>
  intro a hn ha b hb H v1 v2 h1 h2
  have la := szSs_len a
  have lb := szSs_len b
  obtain ⟨o, K, e, rfl, k⟩ := alikeStmt hE (f := sameS) (g := 47) (by omega) (by omega) h1 h2 fun x y hx hy K c1 c2 r1 r2 => pStmt hE n ih x y (by have := szs_mem hx; omega) (by have := szs_mem hx; omega) (by have := szs_mem hy; omega) r1 r2
  rw [c_tSameStmts hE, callB, bodyOf]
  simp [Try.f14, e]
  exact k
theorem pProc (x y : Prc) (hx : szP x ≤ 90000) (hy : szP y ≤ 90000) {H : Heap} {c1 c2 : List Value} (h1 : repPrc.R H T0 x c1) (h2 : repPrc.R H T0 y c2) :
  Gives ((run Try.prog E).call 39 [.agg ⟨c1⟩, .agg ⟨c2⟩] H) fun o H' => o = .val (.bool (sameP x y)) ∧ Same (fun _ => False) H H' := by
 obtain ⟨u1, u2, u3, rfl, G1, G2, G3⟩ := pr_parts h1
 obtain ⟨w1, w2, w3, rfl, F1, F2, F3⟩ := pr_parts h2
 simp only [szP] at hx hy
 simp only [pc5]
 rw [c_tsameProc hE, callB, bodyOf]
 obtain ⟨z1, z2, S0⟩ := two_push H [.int .i64 x.at_, .string x.name, .slice u1 x.params.length x.params.length, .slice u2 x.vars.length x.vars.length, .slice u3 x.body.length x.body.length] [.int .i64 y.at_, .string y.name, .slice w1 y.params.length y.params.length, .slice w2 y.vars.length y.vars.length, .slice w3 y.body.length y.body.length]
 simp [Try.f39]
 generalize hHb : (H.push (.row true 0 1 [.int .i64 x.at_, .string x.name, .slice u1 x.params.length x.params.length, .slice u2 x.vars.length x.vars.length, .slice u3 x.body.length x.body.length])).push (.row true 0 1 [.int .i64 y.at_, .string y.name, .slice w1 y.params.length y.params.length, .slice w2 y.vars.length y.vars.length, .slice w3 y.body.length y.body.length]) = Hb at *
 by_cases d0 : ¬ x.name = y.name
 · simp [z1, z2, d0]
   first | exact S0 | exact ⟨by simp [sameP, d0], S0⟩
 have d0 : x.name = y.name := Classical.not_not.1 d0
 obtain ⟨o, K1, e1, rfl, k1⟩ := alikeIdent hE (by omega) (by omega) (G1.keep S0) (F1.keep S0) fun x y _ _ K c1 c2 r1 r2 => pIdent hE x y r1 r2
 have y11 := k1.at z1 (by simp) fun h => h
 have y12 := k1.at z2 (by simp) fun h => h
 cases b1 : allSame sameN x.params y.params with
 | false =>
  rw [b1] at e1
  simp [z1, z2, d0, e1]
  first | exact S0.trans k1 | exact ⟨by simp [sameP, b1], S0.trans k1⟩
 | true =>
 rw [b1] at e1
 obtain ⟨o, K2, e2, rfl, k2⟩ := alikeIdent hE (by omega) (by omega) ((G2.keep S0).keep k1) ((F2.keep S0).keep k1) fun x y _ _ K c1 c2 r1 r2 => pIdent hE x y r1 r2
 have y21 := k2.at y11 (by simp) fun h => h
 have y22 := k2.at y12 (by simp) fun h => h
 cases b2 : allSame sameN x.vars y.vars with
 | false =>
  rw [b2] at e2
  simp [z1, z2, d0, e1, y11, y12, e2]
  first | exact (S0.trans k1).trans k2 | exact ⟨by simp [sameP, b2], (S0.trans k1).trans k2⟩
 | true =>
 rw [b2] at e2
 obtain ⟨o, K3, e3, rfl, k3⟩ := pStmts hE _ x.body (Nat.lt_succ_self _) (by omega) y.body (by omega) K2 _ _ (((G3.keep S0).keep k1).keep k2) (((F3.keep S0).keep k1).keep k2)
 have y31 := k3.at y21 (by simp) fun h => h
 have y32 := k3.at y22 (by simp) fun h => h
 cases b3 : allSame sameS x.body y.body with
 | false =>
  rw [b3] at e3
  simp [z1, z2, d0, e1, y11, y12, e2, y21, y22, e3]
  first | exact ((S0.trans k1).trans k2).trans k3 | exact ⟨by simp [sameP, b3], ((S0.trans k1).trans k2).trans k3⟩
 | true =>
 rw [b3] at e3
 simp [z1, z2, d0, e1, y11, y12, e2, y21, y22, e3, y31, y32]
 first | exact (((S0.trans k1).trans k2).trans k3) | exact ⟨by simp [sameP, d0, b1, b2, b3], (((S0.trans k1).trans k2).trans k3)⟩
theorem pSame {x y : Src} (h1 : SrcSz x) (h2 : SrcSz y) {H : Heap} {S1 S2 : Nat → Prop} {c1 c2 : List Value} (r1 : RSrc H S1 x c1) (r2 : RSrc H S2 y c2) :
  Gives ((run Try.prog E).call 12 [.agg ⟨c1⟩, .agg ⟨c2⟩] H) fun o H' => o = .val (.bool (sameR x y)) ∧ Same (fun _ => False) H H' := by
 obtain ⟨u1, u2, u3, u4, rfl, G1, G2, G3, G4⟩ := sr_parts r1
 obtain ⟨w1, w2, w3, w4, rfl, F1, F2, F3, F4⟩ := sr_parts r2
 have lp1 := szPs_len x.procs; have lp2 := szPs_len y.procs
 have q1 := h1.d; have q2 := h1.p; have q3 := h1.c; have q4 := h1.b; have q5 := h2.d; have q6 := h2.p; have q7 := h2.c; have q8 := h2.b
 simp only [sr5]
 rw [c_tSame hE, callB, bodyOf]
 obtain ⟨z1, z2, S0⟩ := two_push H [.string x.name, .slice u1 x.decls.length x.decls.length, .slice u2 x.procs.length x.procs.length, .slice u3 x.claims.length x.claims.length, .slice u4 x.body.length x.body.length] [.string y.name, .slice w1 y.decls.length y.decls.length, .slice w2 y.procs.length y.procs.length, .slice w3 y.claims.length y.claims.length, .slice w4 y.body.length y.body.length]
 simp [Try.f12]
 generalize hHb : (H.push (.row true 0 1 [.string x.name, .slice u1 x.decls.length x.decls.length, .slice u2 x.procs.length x.procs.length, .slice u3 x.claims.length x.claims.length, .slice u4 x.body.length x.body.length])).push (.row true 0 1 [.string y.name, .slice w1 y.decls.length y.decls.length, .slice w2 y.procs.length y.procs.length, .slice w3 y.claims.length y.claims.length, .slice w4 y.body.length y.body.length]) = Hb at *
 by_cases d0 : ¬ x.name = y.name
 · simp [z1, z2, d0]
   first | exact S0 | exact ⟨by simp [sameR, d0], S0⟩
 have d0 : x.name = y.name := Classical.not_not.1 d0
 obtain ⟨o, K1, e1, rfl, k1⟩ := alikeDecl hE (by omega) (by omega) (G1.keep S0) (F1.keep S0) fun x y _ _ K c1 c2 r1 r2 => pDecl hE x y r1 r2
 have y11 := k1.at z1 (by simp) fun h => h
 have y12 := k1.at z2 (by simp) fun h => h
 cases b1 : allSame sameD x.decls y.decls with
 | false =>
  rw [b1] at e1
  simp [z1, z2, d0, e1]
  first | exact S0.trans k1 | exact ⟨by simp [sameR, b1], S0.trans k1⟩
 | true =>
 rw [b1] at e1
 obtain ⟨o, K2, e2, rfl, k2⟩ := alikeProc hE (by omega) (by omega) ((G2.keep S0).keep k1) ((F2.keep S0).keep k1) fun x y hx hy K c1 c2 r1 r2 => pProc hE x y (by have := szPs_mem hx; omega) (by have := szPs_mem hy; omega) r1 r2
 have y21 := k2.at y11 (by simp) fun h => h
 have y22 := k2.at y12 (by simp) fun h => h
 cases b2 : allSame sameP x.procs y.procs with
 | false =>
  rw [b2] at e2
  simp [z1, z2, d0, e1, y11, y12, e2]
  first | exact (S0.trans k1).trans k2 | exact ⟨by simp [sameR, b2], (S0.trans k1).trans k2⟩
 | true =>
 rw [b2] at e2
 obtain ⟨o, K3, e3, rfl, k3⟩ := alikeItem hE (by omega) (by omega) (((G3.keep S0).keep k1).keep k2) (((F3.keep S0).keep k1).keep k2) fun x y _ _ K c1 c2 r1 r2 => pItem hE x y r1 r2
 have y31 := k3.at y21 (by simp) fun h => h
 have y32 := k3.at y22 (by simp) fun h => h
 cases b3 : allSame sameI x.claims y.claims with
 | false =>
  rw [b3] at e3
  simp [z1, z2, d0, e1, y11, y12, e2, y21, y22, e3]
  first | exact ((S0.trans k1).trans k2).trans k3 | exact ⟨by simp [sameR, b3], ((S0.trans k1).trans k2).trans k3⟩
 | true =>
 rw [b3] at e3
 obtain ⟨o, K4, e4, rfl, k4⟩ := pStmts hE _ x.body (Nat.lt_succ_self _) (by omega) y.body (by omega) K3 _ _ ((((G4.keep S0).keep k1).keep k2).keep k3) ((((F4.keep S0).keep k1).keep k2).keep k3)
 have y41 := k4.at y31 (by simp) fun h => h
 have y42 := k4.at y32 (by simp) fun h => h
 cases b4 : allSame sameS x.body y.body with
 | false =>
  rw [b4] at e4
  simp [z1, z2, d0, e1, y11, y12, e2, y21, y22, e3, y31, y32, e4]
  first | exact (((S0.trans k1).trans k2).trans k3).trans k4 | exact ⟨by simp [sameR, b4], (((S0.trans k1).trans k2).trans k3).trans k4⟩
 | true =>
 rw [b4] at e4
 simp [z1, z2, d0, e1, y11, y12, e2, y21, y22, e3, y31, y32, e4, y41, y42]
 first | exact ((((S0.trans k1).trans k2).trans k3).trans k4) | exact ⟨by simp [sameR, d0, b1, b2, b3, b4], ((((S0.trans k1).trans k2).trans k3).trans k4)⟩
end
theorem z_ex : zeroT Try.prog 51 = some (.agg ⟨[.int .i64 0, .int .i64 0, .int .i64 0, .int .i64 0, .string ByteArray.empty, .slice none 0 0]⟩) := by kernel_rfl
section
variable {E : Hooks} (hE : Plain E)
include hE
theorem c_totalExpr (args : List Value) (H : Heap) : (run Try.prog E).call 62 args H = callB Try.prog E Try.f62 args H := call_B Try.func62 rfl (by decide +kernel) (hE.no _ rfl rfl) args H
theorem totalExpr {l : List Ex} {f : Ex → Nat} {g : Nat} {H : Heap} {v : Value} (hl : l.length ≤ 100000) (hs : sum f l ≤ 100000) (h1 : GT repEx H v l)
  (hf : ∀ x, x ∈ l → ∀ K c1, repEx.R K T0 x c1 → Gives ((run Try.prog E).call g [.agg ⟨c1⟩] K) fun o K' => o = .val (.int .i64 (f x)) ∧ Same (fun _ => False) K K') :
  Gives ((run Try.prog E).call 62 [v, .func (.func g) #[] #[]] H) fun o H' => o = .val (.int .i64 (sum f l)) ∧ Same (fun _ => False) H H' := by
 obtain ⟨b1, rfl⟩ := h1.slice
 rw [c_totalExpr hE, callB, bodyOf]
 simp [Try.f62]
 refine loop_wp (fun m t K => ∃ i : Nat, i + m = l.length ∧ rd t 9 = .int .i64 i ∧ rd t 4 = .int .i64 (sum f (l.take i)) ∧ Same (fun _ => False) H K) l.length ?_ ?_
 · exact ⟨0, by omega, by simp, by simp [sum], Same.refl _ _⟩
 rintro m t K hk ⟨i, hm, g9, g4, kS⟩
 have ht : t.length = 20 := hk.1.trans (by simp [len_Bs])
 have hh := hk.all [1, 7, 8] (by decide +kernel)
 simp at hh
 obtain ⟨u1, u7, u8⟩ := hh
 clear hk
 rcases Nat.lt_or_ge i l.length with hi | hi
 · obtain ⟨id1, tl1, cs1, rfl, -, -, p1, l1, r1⟩ := (h1.keep kS).at hi
   have hm1 := List.getElem_mem hi
   have st := sum_take f l i hi
   have sl := sum_take_le f l (i + 1)
   generalize l[i] = X at *
   have hk0 : repEx.k = 6 := rfl
   rw [hk0] at p1 l1 r1
   obtain ⟨k1, a1, m1, o1, x1, s1, hx⟩ : ∃ k1 a1 m1 o1 x1 s1, X = Ex.mk k1 a1 m1 o1 x1 s1 := by cases X; exact ⟨_, _, _, _, _, _, rfl⟩
   obtain ⟨b1, ec, -⟩ := ex_parts (hx ▸ r1 : RE K T0 (Ex.mk k1 a1 m1 o1 x1 s1) _)
   rw [ec] at r1
   have hw := wrap64 ((i : Int) + 1) (by omega) (by omega)
   simp [ht, u1, u7, u8, g9, g4, hi, p1, l1, show i * 6 + 6 ≤ l.length * 6 by omega, ec, z_ex]
   have kp : Same (fun _ => False) K (K.push (.row true 0 1 [.int .i64 k1, .int .i64 a1, .int .i64 m1, .int .i64 o1, .string x1, .slice b1 s1.length s1.length])) := Same.push _ _ _
   obtain ⟨o, K', e3, rfl, k3⟩ := hf X hm1 _ _ (repEx.move kp (fun i h _ => ⟨trivial, fun h => h⟩) _ _ r1)
   have hw2 := wrap64 ((sum f (l.take i) : Int) + (f X : Int)) (by omega) (by omega)
   simp [e3, ht, g9, u1, u7, u8, hw, hw2]
   exact ⟨m - 1, by omega, i + 1, by omega, by simp [ht], by simp [ht, st], (kS.trans kp).trans k3⟩
 · have e : i = l.length := by omega
   rw [e, sum_all] at g4
   simp [ht, u1, u7, u8, g9, g4, show ¬ i < l.length by omega]
   exact kS
theorem c_totalStmt (args : List Value) (H : Heap) : (run Try.prog E).call 42 args H = callB Try.prog E Try.f42 args H := call_B Try.func42 rfl (by decide +kernel) (hE.no _ rfl rfl) args H
theorem totalStmt {l : List Stm} {f : Stm → Nat} {g : Nat} {H : Heap} {v : Value} (hl : l.length ≤ 100000) (hs : sum f l ≤ 100000) (h1 : GT repStm H v l)
  (hf : ∀ x, x ∈ l → ∀ K c1, repStm.R K T0 x c1 → Gives ((run Try.prog E).call g [.agg ⟨c1⟩] K) fun o K' => o = .val (.int .i64 (f x)) ∧ Same (fun _ => False) K K') :
  Gives ((run Try.prog E).call 42 [v, .func (.func g) #[] #[]] H) fun o H' => o = .val (.int .i64 (sum f l)) ∧ Same (fun _ => False) H H' := by
 obtain ⟨b1, rfl⟩ := h1.slice
 rw [c_totalStmt hE, callB, bodyOf]
 simp [Try.f42]
 refine loop_wp (fun m t K => ∃ i : Nat, i + m = l.length ∧ rd t 9 = .int .i64 i ∧ rd t 4 = .int .i64 (sum f (l.take i)) ∧ Same (fun _ => False) H K) l.length ?_ ?_
 · exact ⟨0, by omega, by simp, by simp [sum], Same.refl _ _⟩
 rintro m t K hk ⟨i, hm, g9, g4, kS⟩
 have ht : t.length = 20 := hk.1.trans (by simp [len_Bs])
 have hh := hk.all [1, 7, 8] (by decide +kernel)
 simp at hh
 obtain ⟨u1, u7, u8⟩ := hh
 clear hk
 rcases Nat.lt_or_ge i l.length with hi | hi
 · obtain ⟨id1, tl1, cs1, rfl, -, -, p1, l1, r1⟩ := (h1.keep kS).at hi
   have hm1 := List.getElem_mem hi
   have st := sum_take f l i hi
   have sl := sum_take_le f l (i + 1)
   generalize l[i] = X at *
   have hk0 : repStm.k = 8 := rfl
   rw [hk0] at p1 l1 r1
   obtain ⟨k1, a1, x1, e1, bd1, el1, br1, it1, hx⟩ : ∃ k1 a1 x1 e1 bd1 el1 br1 it1, X = Stm.mk k1 a1 x1 e1 bd1 el1 br1 it1 := by cases X; exact ⟨_, _, _, _, _, _, _, _, rfl⟩
   obtain ⟨w1, w2, w3, w4, w5, ec, -⟩ := st_parts (hx ▸ r1 : RS K T0 (Stm.mk k1 a1 x1 e1 bd1 el1 br1 it1) _)
   rw [ec] at r1
   have hw := wrap64 ((i : Int) + 1) (by omega) (by omega)
   simp [ht, u1, u7, u8, g9, g4, hi, p1, l1, show i * 8 + 8 ≤ l.length * 8 by omega, ec, z_stm]
   have kp : Same (fun _ => False) K (K.push (.row true 0 1 [.int .i64 k1, .int .i64 a1, .string x1, .slice w1 e1.length e1.length, .slice w2 bd1.length bd1.length, .slice w3 el1.length el1.length, .slice w4 br1.length br1.length, .slice w5 it1.length it1.length])) := Same.push _ _ _
   obtain ⟨o, K', e3, rfl, k3⟩ := hf X hm1 _ _ (repStm.move kp (fun i h _ => ⟨trivial, fun h => h⟩) _ _ r1)
   have hw2 := wrap64 ((sum f (l.take i) : Int) + (f X : Int)) (by omega) (by omega)
   simp [e3, ht, g9, u1, u7, u8, hw, hw2]
   exact ⟨m - 1, by omega, i + 1, by omega, by simp [ht], by simp [ht, st], (kS.trans kp).trans k3⟩
 · have e : i = l.length := by omega
   rw [e, sum_all] at g4
   simp [ht, u1, u7, u8, g9, g4, show ¬ i < l.length by omega]
   exact kS
theorem c_totalProc (args : List Value) (H : Heap) : (run Try.prog E).call 44 args H = callB Try.prog E Try.f44 args H := call_B Try.func44 rfl (by decide +kernel) (hE.no _ rfl rfl) args H
theorem totalProc {l : List Prc} {f : Prc → Nat} {g : Nat} {H : Heap} {v : Value} (hl : l.length ≤ 100000) (hs : sum f l ≤ 100000) (h1 : GT repPrc H v l)
  (hf : ∀ x, x ∈ l → ∀ K c1, repPrc.R K T0 x c1 → Gives ((run Try.prog E).call g [.agg ⟨c1⟩] K) fun o K' => o = .val (.int .i64 (f x)) ∧ Same (fun _ => False) K K') :
  Gives ((run Try.prog E).call 44 [v, .func (.func g) #[] #[]] H) fun o H' => o = .val (.int .i64 (sum f l)) ∧ Same (fun _ => False) H H' := by
 obtain ⟨b1, rfl⟩ := h1.slice
 rw [c_totalProc hE, callB, bodyOf]
 simp [Try.f44]
 refine loop_wp (fun m t K => ∃ i : Nat, i + m = l.length ∧ rd t 9 = .int .i64 i ∧ rd t 4 = .int .i64 (sum f (l.take i)) ∧ Same (fun _ => False) H K) l.length ?_ ?_
 · exact ⟨0, by omega, by simp, by simp [sum], Same.refl _ _⟩
 rintro m t K hk ⟨i, hm, g9, g4, kS⟩
 have ht : t.length = 20 := hk.1.trans (by simp [len_Bs])
 have hh := hk.all [1, 7, 8] (by decide +kernel)
 simp at hh
 obtain ⟨u1, u7, u8⟩ := hh
 clear hk
 rcases Nat.lt_or_ge i l.length with hi | hi
 · obtain ⟨id1, tl1, cs1, rfl, -, -, p1, l1, r1⟩ := (h1.keep kS).at hi
   have hm1 := List.getElem_mem hi
   have st := sum_take f l i hi
   have sl := sum_take_le f l (i + 1)
   generalize l[i] = X at *
   have hk0 : repPrc.k = 5 := rfl
   rw [hk0] at p1 l1 r1
   obtain ⟨w1, w2, w3, ec, -⟩ := pr_parts r1
   simp only [pc5] at ec
   rw [ec] at r1
   have hw := wrap64 ((i : Int) + 1) (by omega) (by omega)
   simp [ht, u1, u7, u8, g9, g4, hi, p1, l1, show i * 5 + 5 ≤ l.length * 5 by omega, ec, z_prc]
   have kp : Same (fun _ => False) K (K.push (.row true 0 1 [.int .i64 X.at_, .string X.name, .slice w1 X.params.length X.params.length, .slice w2 X.vars.length X.vars.length, .slice w3 X.body.length X.body.length])) := Same.push _ _ _
   obtain ⟨o, K', e3, rfl, k3⟩ := hf X hm1 _ _ (repPrc.move kp (fun i h _ => ⟨trivial, fun h => h⟩) _ _ r1)
   have hw2 := wrap64 ((sum f (l.take i) : Int) + (f X : Int)) (by omega) (by omega)
   simp [e3, ht, g9, u1, u7, u8, hw, hw2]
   exact ⟨m - 1, by omega, i + 1, by omega, by simp [ht], by simp [ht, st], (kS.trans kp).trans k3⟩
 · have e : i = l.length := by omega
   rw [e, sum_all] at g4
   simp [ht, u1, u7, u8, g9, g4, show ¬ i < l.length by omega]
   exact kS
theorem c_totalBranch (args : List Value) (H : Heap) : (run Try.prog E).call 64 args H = callB Try.prog E Try.f64 args H := call_B Try.func64 rfl (by decide +kernel) (hE.no _ rfl rfl) args H
theorem totalBranch {l : List Bra} {f : Bra → Nat} {g : Nat} {H : Heap} {v : Value} (hl : l.length ≤ 100000) (hs : sum f l ≤ 100000) (h1 : GT repBra H v l)
  (hf : ∀ x, x ∈ l → ∀ K c1, repBra.R K T0 x c1 → Gives ((run Try.prog E).call g [.agg ⟨c1⟩] K) fun o K' => o = .val (.int .i64 (f x)) ∧ Same (fun _ => False) K K') :
  Gives ((run Try.prog E).call 64 [v, .func (.func g) #[] #[]] H) fun o H' => o = .val (.int .i64 (sum f l)) ∧ Same (fun _ => False) H H' := by
 obtain ⟨b1, rfl⟩ := h1.slice
 rw [c_totalBranch hE, callB, bodyOf]
 simp [Try.f64]
 refine loop_wp (fun m t K => ∃ i : Nat, i + m = l.length ∧ rd t 9 = .int .i64 i ∧ rd t 4 = .int .i64 (sum f (l.take i)) ∧ Same (fun _ => False) H K) l.length ?_ ?_
 · exact ⟨0, by omega, by simp, by simp [sum], Same.refl _ _⟩
 rintro m t K hk ⟨i, hm, g9, g4, kS⟩
 have ht : t.length = 20 := hk.1.trans (by simp [len_Bs])
 have hh := hk.all [1, 7, 8] (by decide +kernel)
 simp at hh
 obtain ⟨u1, u7, u8⟩ := hh
 clear hk
 rcases Nat.lt_or_ge i l.length with hi | hi
 · obtain ⟨id1, tl1, cs1, rfl, -, -, p1, l1, r1⟩ := (h1.keep kS).at hi
   have hm1 := List.getElem_mem hi
   have st := sum_take f l i hi
   have sl := sum_take_le f l (i + 1)
   generalize l[i] = X at *
   have hk0 : repBra.k = 4 := rfl
   rw [hk0] at p1 l1 r1
   obtain ⟨w1, w2, ec, -⟩ := br_parts r1
   rw [ec] at r1
   have hw := wrap64 ((i : Int) + 1) (by omega) (by omega)
   simp [ht, u1, u7, u8, g9, g4, hi, p1, l1, show i * 4 + 4 ≤ l.length * 4 by omega, ec, z_bra]
   have kp : Same (fun _ => False) K (K.push (.row true 0 1 [.int .i64 X.at_, .string X.name, .slice w1 X.args.length X.args.length, .slice w2 X.claims.length X.claims.length])) := Same.push _ _ _
   obtain ⟨o, K', e3, rfl, k3⟩ := hf X hm1 _ _ (repBra.move kp (fun i h _ => ⟨trivial, fun h => h⟩) _ _ r1)
   have hw2 := wrap64 ((sum f (l.take i) : Int) + (f X : Int)) (by omega) (by omega)
   simp [e3, ht, g9, u1, u7, u8, hw, hw2]
   exact ⟨m - 1, by omega, i + 1, by omega, by simp [ht], by simp [ht, st], (kS.trans kp).trans k3⟩
 · have e : i = l.length := by omega
   rw [e, sum_all] at g4
   simp [ht, u1, u7, u8, g9, g4, show ¬ i < l.length by omega]
   exact kS
end
theorem pl_cstmt : planOf Try.prog (drawN Try.f43 0) = some [none, none, none, some (1, 3), some (0, 1), some (0, 1), none, some (2, 2), some (0, 2), some (0, 2), none, some (3, 1), some (0, 3), some (0, 3), none, none, none] := by decide +kernel
theorem pl_count : planOf Try.prog (drawN Try.f13 0) = some [none, none, none, some (0, 1), some (0, 1), none, none, none] := by decide +kernel
section
variable {E : Hooks} (hE : Plain E)
include hE
theorem c_tcExpr (args : List Value) (H : Heap) : (run Try.prog E).call 63 args H = callB Try.prog E Try.f63 args H := call_B Try.func63 rfl (by decide +kernel) (hE.no _ rfl rfl) args H
theorem c_tcBranch (args : List Value) (H : Heap) : (run Try.prog E).call 65 args H = callB Try.prog E Try.f65 args H := call_B Try.func65 rfl (by decide +kernel) (hE.no _ rfl rfl) args H
theorem c_tcStmt (args : List Value) (H : Heap) : (run Try.prog E).call 43 args H = callB Try.prog E Try.f43 args H := call_B Try.func43 rfl (by decide +kernel) (hE.no _ rfl rfl) args H
theorem c_tcProc (args : List Value) (H : Heap) : (run Try.prog E).call 45 args H = callB Try.prog E Try.f45 args H := call_B Try.func45 rfl (by decide +kernel) (hE.no _ rfl rfl) args H
theorem c_tCount (args : List Value) (H : Heap) : (run Try.prog E).call 13 args H = callB Try.prog E Try.f13 args H := call_B Try.func13 rfl (by decide +kernel) (hE.no _ rfl rfl) args H
theorem pcExpr : ∀ n x, szX x < n → szX x ≤ 90000 → ∀ H c1, RE H T0 x c1 → Gives ((run Try.prog E).call 63 [.agg ⟨c1⟩] H) fun o H' => o = .val (.int .i64 (cntE x)) ∧ Same (fun _ => False) H H' := by
 intro n
 induction n with
 | zero => intro x h; omega
 | succ n ih =>
  intro x hn hx H c1 h1
  cases x with
  | mk k1 a1 m1 o1 x1 s1 =>
  obtain ⟨b1, rfl, G1⟩ := ex_parts h1
  simp only [szX] at hn hx
  have ls := szXs_len s1
  have lc := cntEs_le s1
  rw [cntEs_eq] at lc
  have kp : Same (fun _ => False) H (H.push (.row true 0 1 [.int .i64 k1, .int .i64 a1, .int .i64 m1, .int .i64 o1, .string x1, .slice b1 s1.length s1.length])) := Same.push _ _ _
  obtain ⟨o, K, e1, rfl, k1'⟩ := totalExpr hE (by omega) (by omega) (G1.keep kp) fun x hx K c1 r1 => ih x (by have := sz_mem hx; omega) (by have := sz_mem hx; omega) K c1 r1
  have hw := wrap64 (1 + (sum cntE s1 : Int)) (by omega) (by omega)
  rw [c_tcExpr hE, callB, bodyOf]
  simp [Try.f63, e1, hw, cntE, cntEs_eq]
  exact kp.trans k1'
theorem pcBranch (x : Bra) (hx : szB x ≤ 90000) {H : Heap} {c1 : List Value} (h1 : repBra.R H T0 x c1) : Gives ((run Try.prog E).call 65 [.agg ⟨c1⟩] H) fun o H' => o = .val (.int .i64 (cntB x)) ∧ Same (fun _ => False) H H' := by
 obtain ⟨u1, u2, rfl, G1, G2⟩ := br_parts h1
 simp only [szB] at hx
 have ls := szXs_len x.args
 have lc := cntEs_le x.args
 rw [cntEs_eq] at lc
 have kp : Same (fun _ => False) H (H.push (.row true 0 1 [.int .i64 x.at_, .string x.name, .slice u1 x.args.length x.args.length, .slice u2 x.claims.length x.claims.length])) := Same.push _ _ _
 obtain ⟨o, K, e1, rfl, k1'⟩ := totalExpr hE (by omega) (by omega) (G1.keep kp) fun x hx K c1 r1 => pcExpr hE _ x (Nat.lt_succ_self _) (by have := sz_mem hx; omega) K c1 r1
 rw [c_tcBranch hE, callB, bodyOf]
 simp [Try.f65, e1, cntB]
 exact kp.trans k1'
def CntOK (E : Hooks) (a : List Stm) : Prop := ∀ H v, GT repStm H v a → Gives ((run Try.prog E).call 42 [v, .func (.func 43) #[] #[]] H) fun o H' => o = .val (.int .i64 (sum cntS a)) ∧ Same (fun _ => False) H H'
theorem pcStmt (n : Nat) (ih : ∀ a, szSs a < n → szSs a ≤ 90000 → CntOK E a) (x : Stm) (hn : szS x < n + 1) (hx : szS x ≤ 90000) {H : Heap} {c1 : List Value} (h1 : RS H T0 x c1) :
  Gives ((run Try.prog E).call 43 [.agg ⟨c1⟩] H) fun o H' => o = .val (.int .i64 (cntS x)) ∧ Same (fun _ => False) H H' := by
 cases x with
 | mk k1 a1 x1 e1 bd1 el1 br1 it1 =>
 obtain ⟨w1, w2, w3, w4, w5, rfl, G1, G2, G3, G4, G5⟩ := st_parts h1
 simp only [szS] at hn hx
 have l1 := szXs_len e1; have l3 := szBs_len br1; have l5 := szSs_len bd1; have l6 := szSs_len el1
 have c1' := cntEs_le e1; have c2' := cntSs_le bd1; have c3' := cntSs_le el1; have c4' := cntBs_le br1
 rw [cntEs_eq] at c1'
 rw [cntSs_eq] at c2' c3'
 have kp : Same (fun _ => False) H (H.push (.row true 0 1 [.int .i64 k1, .int .i64 a1, .string x1, .slice w1 e1.length e1.length, .slice w2 bd1.length bd1.length, .slice w3 el1.length el1.length, .slice w4 br1.length br1.length, .slice w5 it1.length it1.length])) := Same.push _ _ _
 have z1 : (H.push (.row true 0 1 [.int .i64 k1, .int .i64 a1, .string x1, .slice w1 e1.length e1.length, .slice w2 bd1.length bd1.length, .slice w3 el1.length el1.length, .slice w4 br1.length br1.length, .slice w5 it1.length it1.length])).get H.n = _ := Heap.get_push_self _ _
 obtain ⟨o, Ka, ea, rfl, ka⟩ := totalExpr hE (by omega) (by omega) (G1.keep kp) fun x hx K c1 r1 => pcExpr hE _ x (Nat.lt_succ_self _) (by have := sz_mem hx; omega) K c1 r1
 obtain ⟨o, Kb, eb, rfl, kb⟩ := ih bd1 (by omega) (by omega) Ka _ ((G2.keep kp).keep ka)
 obtain ⟨o, Kc, ec, rfl, kc⟩ := ih el1 (by omega) (by omega) Kb _ (((G3.keep kp).keep ka).keep kb)
 obtain ⟨o, Kd, ed, rfl, kd⟩ := totalBranch hE (by omega) (by omega) ((((G4.keep kp).keep ka).keep kb).keep kc) fun x hx K c1 r1 => pcBranch hE x (by have := szb_mem hx; omega) r1
 have z1a := ka.at z1 (by simp) fun h => h
 have z1b := kb.at z1a (by simp) fun h => h
 have z1c := kc.at z1b (by simp) fun h => h
 have z1d := kd.at z1c (by simp) fun h => h
 have w1 := wrap64 (1 + (sum cntE e1 : Int)) (by omega) (by omega)
 have w2 := wrap64 (1 + (sum cntE e1 : Int) + (sum cntS bd1 : Int)) (by omega) (by omega)
 have w3 := wrap64 (1 + (sum cntE e1 : Int) + (sum cntS bd1 : Int) + (sum cntS el1 : Int)) (by omega) (by omega)
 have w4 := wrap64 (1 + (sum cntE e1 : Int) + (sum cntS bd1 : Int) + (sum cntS el1 : Int) + (sum cntB br1 : Int)) (by omega) (by omega)
 rw [c_tcStmt hE, callB, bodyOf]
 simp [Try.f43]
 refine region_plan (by exact pl_cstmt) ?_
 simp [z1, ea, z1a, eb, z1b, ec, z1c, ed, z1d, w1, w2, w3, w4, cntS, cntSs_eq]
 exact ⟨by omega, (((kp.trans ka).trans kb).trans kc).trans kd⟩
theorem pcStmts : ∀ n a, szSs a < n → szSs a ≤ 90000 → CntOK E a := by
 intro n
 induction n with
 | zero => intro a h; omega
 | succ n ih =>
  intro a hn ha H v h1
  have la := szSs_len a
  have lc := cntSs_le a
  rw [cntSs_eq] at lc
  exact totalStmt hE (by omega) (by omega) h1 fun x hx K c1 r1 => pcStmt hE n ih x (by have := szs_mem hx; omega) (by have := szs_mem hx; omega) r1
theorem pcProc (x : Prc) (hx : szP x ≤ 90000) {H : Heap} {c1 : List Value} (h1 : repPrc.R H T0 x c1) : Gives ((run Try.prog E).call 45 [.agg ⟨c1⟩] H) fun o H' => o = .val (.int .i64 (cntP x)) ∧ Same (fun _ => False) H H' := by
 obtain ⟨u1, u2, u3, rfl, G1, G2, G3⟩ := pr_parts h1
 simp only [szP] at hx
 simp only [pc5]
 have kp : Same (fun _ => False) H (H.push (.row true 0 1 [.int .i64 x.at_, .string x.name, .slice u1 x.params.length x.params.length, .slice u2 x.vars.length x.vars.length, .slice u3 x.body.length x.body.length])) := Same.push _ _ _
 obtain ⟨o, K, e1, rfl, k1'⟩ := pcStmts hE _ x.body (Nat.lt_succ_self _) (by omega) _ _ (G3.keep kp)
 rw [c_tcProc hE, callB, bodyOf]
 simp [Try.f45, e1, cntP]
 exact kp.trans k1'
theorem pCount {x : Src} (h1 : SrcSz x) {H : Heap} {S1 : Nat → Prop} {c1 : List Value} (r1 : RSrc H S1 x c1) :
  Gives ((run Try.prog E).call 13 [.agg ⟨c1⟩] H) fun o H' => o = .val (.int .i64 (cntR x)) ∧ Same (fun _ => False) H H' := by
 obtain ⟨u1, u2, u3, u4, rfl, G1, G2, G3, G4⟩ := sr_parts r1
 have lp1 := szPs_len x.procs
 have q1 := h1.d; have q2 := h1.p; have q3 := h1.c; have q4 := h1.b
 have c2 := cntSs_le x.body; have c3 := cntPs_le x.procs
 rw [cntSs_eq] at c2
 simp only [sr5]
 have kp : Same (fun _ => False) H (H.push (.row true 0 1 [.string x.name, .slice u1 x.decls.length x.decls.length, .slice u2 x.procs.length x.procs.length, .slice u3 x.claims.length x.claims.length, .slice u4 x.body.length x.body.length])) := Same.push _ _ _
 have z1 : (H.push (.row true 0 1 [.string x.name, .slice u1 x.decls.length x.decls.length, .slice u2 x.procs.length x.procs.length, .slice u3 x.claims.length x.claims.length, .slice u4 x.body.length x.body.length])).get H.n = _ := Heap.get_push_self _ _
 obtain ⟨o, Ka, ea, rfl, ka⟩ := pcStmts hE _ x.body (Nat.lt_succ_self _) (by omega) _ _ (G4.keep kp)
 have z1a := ka.at z1 (by simp) fun h => h
 obtain ⟨o, Kb, eb, rfl, kb⟩ := totalProc hE (by omega) (by omega) ((G2.keep kp).keep ka) fun x hx K c1 r1 => pcProc hE x (by have := szPs_mem hx; omega) r1
 have w1 := wrap64 ((sum cntS x.body : Int) + (sum cntP x.procs : Int)) (by omega) (by omega)
 rw [c_tCount hE, callB, bodyOf]
 simp [Try.f13]
 refine region_plan (by exact pl_count) ?_
 simp [z1, ea, z1a, eb, w1, cntR]
 exact (kp.trans ka).trans kb
end
end Go.Vm.Tree
