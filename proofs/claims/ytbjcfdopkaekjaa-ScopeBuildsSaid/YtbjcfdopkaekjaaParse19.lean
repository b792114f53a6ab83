/- What is proved: the reader's statements for any fuel; its 'size'. What is defined and proved: declarations; the reader's 'decls'. What is defined and proved: procedures in plain words, and in the heap; the reader's 'proc'. What is proved: the reader's 'proc'. What is defined and proved: sources in plain words, and in the heap; 'Parse'. -/
import Derived.Test.YtbjcfdopkaekjaaParse14
import Derived.Test.YtbjcfdopkaekjaaCut
import Derived.Test.YtbjcfdopkaekjaaLex2
import Derived.Test.YtbjcfdopkaekjaaLexL
namespace Go.Vm.Parse
open Go Go.Proofs
set_option maxRecDepth 100000
set_option maxHeartbeats 4000000
set_option linter.unusedSimpArgs false
set_option linter.unusedVariables false
attribute [local simp] repCells_succ writeAt rd_Fr toList_beq gpe gpn spe gse gsn ne_r0 ne_l0 le_s0 ne_r1 ne_l1 lt_s1 le_s1 ne_r2 ne_l2 lt_s2 le_s2 ne_r3 ne_l3 lt_s3 le_s3 ne_r4 ne_l4 lt_s4 le_s4 ne_r5 ne_l5 lt_s5 le_s5 ne_r6 ne_l6 lt_s6 le_s6 ne_r7 ne_l7 lt_s7 le_s7
section
variable {E : Hooks} (hE : Plain E) {B : BrP} {r lid : Nat} {L : List Tk}
include hE
/-- What the reader of statements reads in plain words the calls read. -/
theorem st_all (hB : BLt B L) (hBr : BranOK E B r lid L) : ∀ n, StmtOK E B r lid L n ∧ StmtsOK E B r lid L n ∧ BlockOK E B r lid L n := by
  intro n
  induction n using Nat.strongRecOn with
  | _ n ih =>
    have h2 := stmts_walk hE hB (n := n) fun m hm => (ih m hm).1
    cases n with
    | zero => exact ⟨fun _ _ _ _ h => (by rw [stmtP] at h; cases h), h2, fun _ _ _ _ _ h => (by rw [blockP] at h; cases h)⟩
    | succ n => exact ⟨stmt_walk hE hB hBr (ih n (by omega)).2.2, h2, block_walk hE (ih n (by omega)).2.1⟩
end
def unitS (L : List Tk) (s : PS) (q : Int × Int) : PS := if s.c = 0 ∧ (q.1 < 1 ∨ 64 < q.1) then { s with c := 24, a := q.2 } else s
def sizeP (L : List Tk) (s : PS) : Int × PS :=
  if isP L s (b1 91) = false then (0, s)
  else ((numP L s.on).1, mustS L (unitS L (numS L s.on) (numP L s.on)) (b1 93))
theorem unitS_le (L : List Tk) (s : PS) (q : Int × Int) : s.le (unitS L s q) := by
  unfold unitS
  split
  · exact ⟨Nat.le_refl _, fun h => by simp at h⟩
  · exact PS.le_refl _
theorem sizeP_le (L : List Tk) (s : PS) : s.le (sizeP L s).2 := by
  unfold sizeP
  split
  · exact PS.le_refl _
  · exact (((PS.le_on s).le_trans (numS_le _ _)).le_trans (unitS_le _ _ _)).le_trans (mustS_le _ _ _)
section
variable {E : Hooks} (hE : Plain E) {r lid : Nat} {L : List Tk}
include hE
theorem size_run {H : Heap} {s : PS} (h : RD H r lid L s) : ∃ H', (run Try.prog E).call 75 [.pointer (some ⟨r, 0, none⟩)] H = some (.val (.int .i64 (sizeP L s).1), H') ∧ Same (· = r) H H' ∧ RD H' r lid L (sizeP L s).2 := by
  suffices key : Gives ((run Try.prog E).call 75 [.pointer (some ⟨r, 0, none⟩)] H) fun o H' => o = .val (.int .i64 (sizeP L s).1) ∧ Same (· = r) H H' ∧ RD H' r lid L (sizeP L s).2 by
    obtain ⟨o, H', e, rfl, k⟩ := key
    exact ⟨H', e, k⟩
  have hr := h.lt
  obtain ⟨HA, eA, kA, hA⟩ := take_run hE h (b1 91)
  rw [c_size hE, callB, bodyOf]
  simp only [b1] at eA
  unfold sizeP
  by_cases c1 : isP L s (b1 91) = false
  · rw [if_pos c1]
    rw [takeS_no c1] at hA
    simp only [b1] at c1
    simp [Try.f75, eA, c1]
    exact ⟨kA, hA⟩
  rw [if_neg c1]
  have c1' : isP L s (b1 91) = true := by simpa using c1
  rw [takeS_yes c1'] at hA
  obtain ⟨HB, eB, kB, hB⟩ := num_run hE hA
  have eb := bad_run hE hB
  have hobj := hB.obj
  have hrB := hB.lt
  generalize hq : numP L s.on = q at *
  generalize hs2 : numS L s.on = s2 at *
  simp only [b1] at c1'
  have fin : ∀ s3 K, Same (· = r) H K → RD K r lid L s3 → ∃ K', (run Try.prog E).call 36 [.pointer (some ⟨r, 0, none⟩), .string (b1 93)] K = some (.val (.tuple #[]), K') ∧ Same (· = r) H K' ∧ RD K' r lid L (mustS L s3 (b1 93)) := by
    intro s3 K k hK
    obtain ⟨K', e, k', d⟩ := must_run hE hK (b1 93)
    exact ⟨K', e, k.trans k', d⟩
  by_cases c2 : s2.c = 0
  · by_cases c3 : q.1 < 1
    · have hu : unitS L s2 q = { s2 with c := 24, a := q.2 } := by unfold unitS; rw [if_pos ⟨c2, .inl c3⟩]
      rw [hu]
      obtain ⟨KD, eD, kD, hD⟩ := fin _ _ ((kA.trans kB).then_set hrB (.inl rfl) _) (hB.turn { s2 with c := 24, a := q.2 } hB.place)
      simp only [b1] at eD
      simp [Try.f75, eA, c1', eB, eb, c2, c3, hobj, eD]
      exact ⟨kD, hD⟩
    · by_cases c4 : 64 < q.1
      · have hu : unitS L s2 q = { s2 with c := 24, a := q.2 } := by unfold unitS; rw [if_pos ⟨c2, .inr c4⟩]
        rw [hu]
        obtain ⟨KD, eD, kD, hD⟩ := fin _ _ ((kA.trans kB).then_set hrB (.inl rfl) _) (hB.turn { s2 with c := 24, a := q.2 } hB.place)
        simp only [b1] at eD
        simp [Try.f75, eA, c1', eB, eb, c2, c3, c4, hobj, eD]
        exact ⟨kD, hD⟩
      · have hu : unitS L s2 q = s2 := by unfold unitS; rw [if_neg (by rintro ⟨_, h | h⟩ <;> omega)]
        rw [hu]
        obtain ⟨KD, eD, kD, hD⟩ := fin _ _ (kA.trans kB) hB
        simp only [b1] at eD
        simp [Try.f75, eA, c1', eB, eb, c2, c3, c4, hobj, eD]
        exact ⟨kD, hD⟩
  · have hu : unitS L s2 q = s2 := by unfold unitS; rw [if_neg (fun h => c2 h.1)]
    rw [hu]
    obtain ⟨KD, eD, kD, hD⟩ := fin _ _ (kA.trans kB) hB
    simp only [b1] at eD
    simp [Try.f75, eA, c1', eB, eb, c2, hobj, eD]
    exact ⟨kD, hD⟩
end
end Go.Vm.Parse
namespace Go.Vm.Parse
open Go Go.Proofs
set_option maxRecDepth 100000
set_option maxHeartbeats 4000000
set_option linter.unusedSimpArgs false
set_option linter.unusedVariables false
attribute [local simp] repCells_succ writeAt rd_Fr toList_beq gpe gpn spe gse gsn ne_r0 ne_l0 le_s0 ne_r1 ne_l1 lt_s1 le_s1 ne_r2 ne_l2 lt_s2 le_s2 ne_r3 ne_l3 lt_s3 le_s3 ne_r4 ne_l4 lt_s4 le_s4 ne_r5 ne_l5 lt_s5 le_s5 ne_r6 ne_l6 lt_s6 le_s6 ne_r7 ne_l7 lt_s7 le_s7
structure Dcl where
  kind : Int
  at_ : Int
  name : ByteArray
  n : Int
def dsc (k a : Int) (x : ByteArray) (n : Int) : List Value := [.int .i64 k, .int .i64 a, .string x, .int .i64 n]
def repDcl : Rep Dcl where
  k := 4
  R _ _ x cs := cs = dsc x.kind x.at_ x.name x.n
  len h := by subst h; rfl
  move _ _ _ _ h := h
def tResource : ByteArray := ⟨#[114, 101, 115, 111, 117, 114, 99, 101]⟩
def tSemaphore : ByteArray := ⟨#[115, 101, 109, 97, 112, 104, 111, 114, 101]⟩
def tShared : ByteArray := ⟨#[115, 104, 97, 114, 101, 100]⟩
def tVar : ByteArray := ⟨#[118, 97, 114]⟩
def kindP (L : List Tk) (s : PS) : Int :=
  if isP L s tResource = true then 1 else if isP L s tSemaphore = true then 2 else if isP L s tShared = true then 3 else if isP L s tVar = true then 4 else 0
def unitsP (L : List Tk) (k : Int) (s : PS) : Int × PS := if k = 1 ∨ k = 2 then ((numP L s).1, numS L s) else sizeP L s
theorem unitsP_le (L : List Tk) (k : Int) (s : PS) : s.le (unitsP L k s).2 := by
  unfold unitsP
  split
  · exact numS_le _ _
  · exact sizeP_le _ _
def dclP (L : List Tk) (k : Int) (s : PS) : Dcl := ⟨k, (nameP L s).at_, (nameP L s).name, (unitsP L k (nameS L s)).1⟩
def dclS (L : List Tk) (k : Int) (s : PS) : PS := mustS L (unitsP L k (nameS L s)).2 tSemi
def declsL (L : List Tk) : Nat → List Dcl → PS → Option (List Dcl × PS)
  | 0, _, _ => none
  | n + 1, acc, s =>
    if s.c = 0 then
      if kindP L s = 0 then some (acc, s)
      else declsL L n (acc ++ [dclP L (kindP L s) s.on]) (dclS L (kindP L s) s.on)
    else some (acc, s)
theorem dclS_lt (L : List Tk) (k : Int) (s : PS) : s.le (dclS L k s) := ((nameS_le L s).1.le_trans (unitsP_le _ _ _)).le_trans (mustS_le _ _ _)
theorem declsL_le {L : List Tk} : ∀ {n : Nat} {acc : List Dcl} {s s' : PS} {l : List Dcl}, declsL L n acc s = some (l, s') → s.le s'
  | 0, _, _, _, _, h => by cases h
  | n + 1, acc, s, s', l, h => by
    rw [declsL] at h
    split at h
    · split at h
      · cases h; exact PS.le_refl _
      · exact ((PS.le_on s).le_trans (dclS_lt _ _ _)).le_trans (declsL_le h)
    · cases h; exact PS.le_refl _
theorem tf_dcl : TF Try.prog 35 4 := ⟨_, _, _, by simp, by simp, by simp; rfl, by omega, by simp; rfl, rfl, by omega, rfl⟩
theorem pl_decls : planOf Try.prog (drawN Try.f38 0) = some [none, none, (some (0, 1)), (some (0, 1)), none, none, none, none] := by decide +kernel
def DeclsI (r lid : Nat) (L : List Tk) (H : Heap) (res : List Dcl) (s' : PS) (n m : Nat) (t : List Value) (H' : Heap) : Prop :=
  m ≤ n ∧ ∃ acc s v, declsL L m acc s = some (res, s') ∧ rd t 3 = v ∧ repDcl.G H' (fun i => H.n ≤ i) v acc ∧ At H r lid L s H' ∧ acc.length ≤ s.p
section
variable {E : Hooks} (hE : Plain E) {r lid : Nat} {L : List Tk}
include hE
theorem decls_run {n : Nat} {s s' : PS} {l : List Dcl} (hx : declsL L n [] s = some (l, s')) {H : Heap} (h : RD H r lid L s) : Gives ((run Try.prog E).call 38 [.pointer (some ⟨r, 0, none⟩)] H) (RetG repDcl H r lid L l s') := by
  have hr := h.lt
  have hl := h.lid_lt
  have hsm := h.small
  rw [c_decls hE, callB, bodyOf]
  simp [Try.f38]
  refine loop_wp (DeclsI r lid L H l s' n) n ?_ ?_
  · exact ⟨Nat.le_refl n, [], _, .slice (some ⟨H.n, 0, none⟩) 0 0, hx, by simp, repDcl.G_empty H (Nat.le_refl _), ⟨Same.push _ _ _, h.same (Same.push _ _ _)⟩, by simp⟩
  rintro m t H' hk ⟨hmn, acc, s1, v, hxl, g3, hG, hA, hlen⟩
  have ht : t.length = 60 := hk.1.trans (by simp [len_Bs])
  have hh := hk.all [0] (by decide +kernel)
  simp at hh
  have eb := bad_run hE hA.rd
  have nS := hA.n
  cases m with
  | zero => cases hxl
  | succ m =>
  rw [declsL] at hxl
  by_cases hc : s1.c = 0
  · rw [if_pos hc] at hxl
    have l0 : Loc H r lid L H'.n s1 (dsc 0 0 ByteArray.empty 0) (H'.push (.row true 0 1 (dsc 0 0 ByteArray.empty 0))) :=
      ⟨hA.push _, Heap.get_push_self _ _, by simp, nS, hr, hl⟩
    have hvr : ∀ i, vid v i → i < H'.n ∧ H.n ≤ i := fun i hi => repDcl.G_lt hG hi
    -- what follows a word of a kind
    have tail : ∀ (k : Int) (K : Heap), kindP L s1 = k → ¬ k = 0 → Loc H r lid L H'.n s1.on (dsc k 0 ByteArray.empty 0) K → repDcl.G K (fun i => H.n ≤ i ∧ i ≠ H'.n) v acc →
        ∃ KA KC KD v' KE, (run Try.prog E).call 37 [.pointer (some ⟨r, 0, none⟩)] K = some (.val (.agg ⟨[.int .i64 (nameP L s1.on).at_, .string (nameP L s1.on).name]⟩), KA) ∧ H'.n < KA.n ∧ KA.get H'.n = .row true 0 1 (dsc k 0 ByteArray.empty 0) ∧
          (k = 1 ∨ k = 2 → (run Try.prog E).call 74 [.pointer (some ⟨r, 0, none⟩)] ((KA.push (.row true 0 1 [.int .i64 (nameP L s1.on).at_, .string (nameP L s1.on).name])).set H'.n (.row true 0 1 (dsc k (nameP L s1.on).at_ (nameP L s1.on).name 0))) = some (.val (.tuple #[.int .i64 (unitsP L k (nameS L s1.on)).1, .int .i64 (numP L (nameS L s1.on)).2]), KC)) ∧
          (¬ (k = 1 ∨ k = 2) → (run Try.prog E).call 75 [.pointer (some ⟨r, 0, none⟩)] ((KA.push (.row true 0 1 [.int .i64 (nameP L s1.on).at_, .string (nameP L s1.on).name])).set H'.n (.row true 0 1 (dsc k (nameP L s1.on).at_ (nameP L s1.on).name 0))) = some (.val (.int .i64 (unitsP L k (nameS L s1.on)).1), KC)) ∧
          KC.get H'.n = .row true 0 1 (dsc k (nameP L s1.on).at_ (nameP L s1.on).name 0) ∧ H'.n < KC.n ∧
          (run Try.prog E).call 36 [.pointer (some ⟨r, 0, none⟩), .string tSemi] (KC.set H'.n (.row true 0 1 (dsc k (nameP L s1.on).at_ (nameP L s1.on).name (unitsP L k (nameS L s1.on)).1))) = some (.val (.tuple #[]), KD) ∧
          KD.get H'.n = .row true 0 1 (dsc k (nameP L s1.on).at_ (nameP L s1.on).name (unitsP L k (nameS L s1.on)).1) ∧
          exAppend Try.prog [35, 35] v (.slice (some ⟨KD.n, 0, none⟩) 1 1) (KD.push (.row true 0 4 (dsc k (nameP L s1.on).at_ (nameP L s1.on).name (unitsP L k (nameS L s1.on)).1))) = some (v', KE) ∧
          repDcl.G KE (fun i => H.n ≤ i) v' (acc ++ [dclP L k s1.on]) ∧ At H r lid L (dclS L k s1.on) KE := by
      intro k K hk1 hk0 lK gK
      obtain ⟨KA, eA, lA, kA⟩ := lK.name hE
      have lB := (lA.push (.row true 0 1 [.int .i64 (nameP L s1.on).at_, .string (nameP L s1.on).name])).put (dsc k (nameP L s1.on).at_ (nameP L s1.on).name 0)
      have nA := kA.n
      have tA := lA.lt
      have mv : ∀ {A B : Heap} {X : Nat → Prop}, repDcl.G A (fun i => H.n ≤ i ∧ i ≠ H'.n) v acc → Same X A B → (∀ i, X i → i = r ∨ i = H'.n) → repDcl.G B (fun i => H.n ≤ i ∧ i ≠ H'.n) v acc :=
        fun g k hX => repDcl.G_move k (fun i hi _ => ⟨hi, fun hx => by have := hX i hx; omega⟩) g
      have gA := mv gK kA (fun i h => .inl h)
      have gB := mv (mv gA (Same.push (fun _ => False) _ (.row true 0 1 [.int .i64 (nameP L s1.on).at_, .string (nameP L s1.on).name])) (fun _ h => h.elim)) (Same.set (X := fun i => i = H'.n) _ (by simp; omega) rfl (.row true 0 1 (dsc k (nameP L s1.on).at_ (nameP L s1.on).name 0))) (fun i h => .inr h)
      have mid : ∃ KC, (k = 1 ∨ k = 2 → (run Try.prog E).call 74 [.pointer (some ⟨r, 0, none⟩)] ((KA.push (.row true 0 1 [.int .i64 (nameP L s1.on).at_, .string (nameP L s1.on).name])).set H'.n (.row true 0 1 (dsc k (nameP L s1.on).at_ (nameP L s1.on).name 0))) = some (.val (.tuple #[.int .i64 (unitsP L k (nameS L s1.on)).1, .int .i64 (numP L (nameS L s1.on)).2]), KC)) ∧
          (¬ (k = 1 ∨ k = 2) → (run Try.prog E).call 75 [.pointer (some ⟨r, 0, none⟩)] ((KA.push (.row true 0 1 [.int .i64 (nameP L s1.on).at_, .string (nameP L s1.on).name])).set H'.n (.row true 0 1 (dsc k (nameP L s1.on).at_ (nameP L s1.on).name 0))) = some (.val (.int .i64 (unitsP L k (nameS L s1.on)).1), KC)) ∧
          Loc H r lid L H'.n (unitsP L k (nameS L s1.on)).2 (dsc k (nameP L s1.on).at_ (nameP L s1.on).name 0) KC ∧ Same (· = r) ((KA.push (.row true 0 1 [.int .i64 (nameP L s1.on).at_, .string (nameP L s1.on).name])).set H'.n (.row true 0 1 (dsc k (nameP L s1.on).at_ (nameP L s1.on).name 0))) KC := by
        by_cases hk : k = 1 ∨ k = 2
        · obtain ⟨KC, eC, lC, kC⟩ := lB.num hE
          have hu : unitsP L k (nameS L s1.on) = ((numP L (nameS L s1.on)).1, numS L (nameS L s1.on)) := by unfold unitsP; rw [if_pos hk]
          rw [hu]
          exact ⟨KC, fun _ => eC, fun h => absurd hk h, lC, kC⟩
        · obtain ⟨KC, eC, kC, dC⟩ := size_run hE lB.at_.rd
          have hu : unitsP L k (nameS L s1.on) = sizeP L (nameS L s1.on) := by unfold unitsP; rw [if_neg hk]
          rw [hu]
          exact ⟨KC, fun h => absurd h hk, fun _ => eC, lB.step kC dC, kC⟩
      obtain ⟨KC, eC1, eC2, lC, kC⟩ := mid
      have gC := mv gB kC (fun i h => .inl h)
      have lC2 := lC.put (dsc k (nameP L s1.on).at_ (nameP L s1.on).name (unitsP L k (nameS L s1.on)).1)
      have gC2 := mv gC (Same.set (X := fun i => i = H'.n) KC lC.lt rfl (.row true 0 1 (dsc k (nameP L s1.on).at_ (nameP L s1.on).name (unitsP L k (nameS L s1.on)).1))) (fun i h => .inr h)
      obtain ⟨KD, eD, lD, kD⟩ := lC2.must hE tSemi
      have gD := mv gC2 kD (fun i h => .inl h)
      have nD := lD.at_.n
      have tD := lD.lt
      have gD2 : repDcl.G KD (fun i => H.n ≤ i) v acc := repDcl.G_move (Same.refl (fun _ => False) _) (fun i hi _ => ⟨hi.1, fun h => h⟩) gD
      have hvD : ∀ i, vid v i → H.n ≤ i := fun i hi => (hvr i hi).2
      have hpl := hA.rd.place
      obtain ⟨v', KE, eE, gE, kE⟩ := repDcl.G_app tf_dcl gD2 (fun i hi => by omega) (by omega) (a := dclP L k s1.on) (c := dsc k (nameP L s1.on).at_ (nameP L s1.on).name (unitsP L k (nameS L s1.on)).1) rfl
      have aE : At H r lid L (dclS L k s1.on) KE := ⟨lD.at_.same.then kE (fun i hi => .inr (hvD i hi)), lD.at_.rd.keep kE (fun hi => by have := hvD _ hi; omega) (fun hi => by have := hvD _ hi; omega)⟩
      exact ⟨KA, KC, KD, v', KE, eA, tA, lA.get, eC1, eC2, lC.get, lC.lt, eD, lD.get, eE, gE, aE⟩
    have mv : ∀ {A B : Heap} {X : Nat → Prop}, repDcl.G A (fun i => H.n ≤ i ∧ i ≠ H'.n) v acc → Same X A B → (∀ i, X i → i = r ∨ i = H'.n) → repDcl.G B (fun i => H.n ≤ i ∧ i ≠ H'.n) v acc :=
      fun g k hX => repDcl.G_move k (fun i hi _ => ⟨hi, fun hx => by have := hX i hx; omega⟩) g
    have q0 := mv (repDcl.G_move (Same.refl (fun _ => False) _) (S' := fun i => H.n ≤ i ∧ i ≠ H'.n) (fun i hi hlt => ⟨⟨hi, by omega⟩, fun h => h⟩) hG) (Same.push (fun _ => False) _ (.row true 0 1 (dsc 0 0 ByteArray.empty 0))) (fun _ h => h.elim)
    simp only [dsc] at l0 q0
    by_cases c1 : isP L s1 tResource = true
    · have hk1 : kindP L s1 = 1 := by unfold kindP; simp [c1]
      rw [hk1, if_neg (by omega)] at hxl
      obtain ⟨K1, e1, l1, k1⟩ := l0.take_yes hE c1
      have q1 := mv q0 k1 (fun i h => .inl h)
      have lK := l1.put (dsc 1 0 ByteArray.empty 0)
      have qK := mv q1 (Same.set (X := fun i => i = H'.n) K1 l1.lt rfl (.row true 0 1 (dsc 1 0 ByteArray.empty 0))) (fun i h => .inr h)
      obtain ⟨KA, KC, KD, v', KE, eA, tA, gA, eN1, eN2, gC, tC, eD, gD, eE, gE, aE⟩ := tail 1 _ hk1 (by omega) lK qK
      have eN := eN1 (by omega)
      have gK := l1.get
      have tK := l1.lt
      have tD : H'.n < KD.n := Heap.lt_of_get gD (by simp)
      simp only [tResource, tSemi, dsc] at e1 gK eA gA eN gC eD gD eE
      simp [ht, g3, hh, eb, hc, e1, gK, tK, eA]
      refine region_plan (by exact pl_decls) ?_
      simp [ht, g3, hh, gA, tA, Heap.set_set, eN, gC, tC, eD, gD, tD, eE]
      refine ⟨m, by omega, by omega, _, _, v', hxl, by simp [ht], gE, aE, ?_⟩
      have := dclS_lt L 1 s1.on
      have := this.place
      simp [PS.on] at this ⊢
      omega
    have c1' : isP L s1 tResource = false := by simpa using c1
    obtain ⟨K1, e1, l1, k1⟩ := l0.take_no hE c1'
    have q1 := mv q0 k1 (fun i h => .inl h)
    simp only [tResource] at e1
    by_cases c2 : isP L s1 tSemaphore = true
    · have hk1 : kindP L s1 = 2 := by unfold kindP; simp [c1', c2]
      rw [hk1, if_neg (by omega)] at hxl
      obtain ⟨K2, e2, l2, k2⟩ := l1.take_yes hE c2
      have q2 := mv q1 k2 (fun i h => .inl h)
      have lK := l2.put (dsc 2 0 ByteArray.empty 0)
      have qK := mv q2 (Same.set (X := fun i => i = H'.n) K2 l2.lt rfl (.row true 0 1 (dsc 2 0 ByteArray.empty 0))) (fun i h => .inr h)
      obtain ⟨KA, KC, KD, v', KE, eA, tA, gA, eN1, eN2, gC, tC, eD, gD, eE, gE, aE⟩ := tail 2 _ hk1 (by omega) lK qK
      have eN := eN1 (by omega)
      have gK := l2.get
      have tK := l2.lt
      have tD : H'.n < KD.n := Heap.lt_of_get gD (by simp)
      simp only [tSemaphore, tSemi, dsc] at e2 gK eA gA eN gC eD gD eE
      simp [ht, g3, hh, eb, hc, e1, e2, gK, tK, eA]
      refine region_plan (by exact pl_decls) ?_
      simp [ht, g3, hh, gA, tA, Heap.set_set, eN, gC, tC, eD, gD, tD, eE]
      refine ⟨m, by omega, by omega, _, _, v', hxl, by simp [ht], gE, aE, ?_⟩
      have := dclS_lt L 2 s1.on
      have := this.place
      simp [PS.on] at this ⊢
      omega
    have c2' : isP L s1 tSemaphore = false := by simpa using c2
    obtain ⟨K2, e2, l2, k2⟩ := l1.take_no hE c2'
    have q2 := mv q1 k2 (fun i h => .inl h)
    simp only [tSemaphore] at e2
    by_cases c3 : isP L s1 tShared = true
    · have hk1 : kindP L s1 = 3 := by unfold kindP; simp [c1', c2', c3]
      rw [hk1, if_neg (by omega)] at hxl
      obtain ⟨K3, e3, l3, k3⟩ := l2.take_yes hE c3
      have q3 := mv q2 k3 (fun i h => .inl h)
      have lK := l3.put (dsc 3 0 ByteArray.empty 0)
      have qK := mv q3 (Same.set (X := fun i => i = H'.n) K3 l3.lt rfl (.row true 0 1 (dsc 3 0 ByteArray.empty 0))) (fun i h => .inr h)
      obtain ⟨KA, KC, KD, v', KE, eA, tA, gA, eN1, eN2, gC, tC, eD, gD, eE, gE, aE⟩ := tail 3 _ hk1 (by omega) lK qK
      have eN := eN2 (by omega)
      have gK := l3.get
      have tK := l3.lt
      have tD : H'.n < KD.n := Heap.lt_of_get gD (by simp)
      simp only [tShared, tSemi, dsc] at e3 gK eA gA eN gC eD gD eE
      simp [ht, g3, hh, eb, hc, e1, e2, e3, gK, tK, eA]
      refine region_plan (by exact pl_decls) ?_
      simp [ht, g3, hh, gA, tA, Heap.set_set, eN, gC, tC, eD, gD, tD, eE]
      refine ⟨m, by omega, by omega, _, _, v', hxl, by simp [ht], gE, aE, ?_⟩
      have := dclS_lt L 3 s1.on
      have := this.place
      simp [PS.on] at this ⊢
      omega
    have c3' : isP L s1 tShared = false := by simpa using c3
    obtain ⟨K3, e3, l3, k3⟩ := l2.take_no hE c3'
    have q3 := mv q2 k3 (fun i h => .inl h)
    simp only [tShared] at e3
    by_cases c4 : isP L s1 tVar = true
    · have hk1 : kindP L s1 = 4 := by unfold kindP; simp [c1', c2', c3', c4]
      rw [hk1, if_neg (by omega)] at hxl
      obtain ⟨K4, e4, l4, k4⟩ := l3.take_yes hE c4
      have q4 := mv q3 k4 (fun i h => .inl h)
      have lK := l4.put (dsc 4 0 ByteArray.empty 0)
      have qK := mv q4 (Same.set (X := fun i => i = H'.n) K4 l4.lt rfl (.row true 0 1 (dsc 4 0 ByteArray.empty 0))) (fun i h => .inr h)
      obtain ⟨KA, KC, KD, v', KE, eA, tA, gA, eN1, eN2, gC, tC, eD, gD, eE, gE, aE⟩ := tail 4 _ hk1 (by omega) lK qK
      have eN := eN2 (by omega)
      have gK := l4.get
      have tK := l4.lt
      have tD : H'.n < KD.n := Heap.lt_of_get gD (by simp)
      simp only [tVar, tSemi, dsc] at e4 gK eA gA eN gC eD gD eE
      simp [ht, g3, hh, eb, hc, e1, e2, e3, e4, gK, tK, eA]
      refine region_plan (by exact pl_decls) ?_
      simp [ht, g3, hh, gA, tA, Heap.set_set, eN, gC, tC, eD, gD, tD, eE]
      refine ⟨m, by omega, by omega, _, _, v', hxl, by simp [ht], gE, aE, ?_⟩
      have := dclS_lt L 4 s1.on
      have := this.place
      simp [PS.on] at this ⊢
      omega
    have c4' : isP L s1 tVar = false := by simpa using c4
    obtain ⟨K4, e4, l4, k4⟩ := l3.take_no hE c4'
    have q4 := mv q3 k4 (fun i h => .inl h)
    simp only [tVar] at e4
    have hk0 : kindP L s1 = 0 := by unfold kindP; simp [c1', c2', c3', c4']
    rw [if_pos hk0] at hxl
    cases hxl
    simp [ht, g3, hh, eb, hc, e1, e2, e3, e4]
    exact ⟨v, rfl, l4.at_.same, l4.at_.rd, repDcl.G_move (Same.refl (fun _ => False) _) (fun i hi _ => ⟨hi.1, fun h => h⟩) q4⟩
  · rw [if_neg hc] at hxl
    cases hxl
    simp [ht, g3, hh, eb, hc]
    exact ⟨v, rfl, hA.same, hA.rd, hG⟩
end
end Go.Vm.Parse
namespace Go.Vm.Parse
open Go Go.Proofs
set_option maxRecDepth 100000
set_option maxHeartbeats 4000000
set_option linter.unusedSimpArgs false
set_option linter.unusedVariables false
attribute [local simp] repCells_succ writeAt rd_Fr toList_beq gpe gpn spe gse gsn ne_r0 ne_l0 le_s0 ne_r1 ne_l1 lt_s1 le_s1 ne_r2 ne_l2 lt_s2 le_s2 ne_r3 ne_l3 lt_s3 le_s3 ne_r4 ne_l4 lt_s4 le_s4 ne_r5 ne_l5 lt_s5 le_s5 ne_r6 ne_l6 lt_s6 le_s6 ne_r7 ne_l7 lt_s7 le_s7
def repIdn : Rep Idn where
  k := 2
  R _ _ x cs := cs = x.cells
  len h := by subst h; rfl
  move _ _ _ _ h := h
structure Prc where
  at_ : Int
  name : ByteArray
  params : List Idn
  vars : List Idn
  body : List Stm
def pc5 (a : Int) (x : ByteArray) (v1 v2 v3 : Value) : List Value := [.int .i64 a, .string x, v1, v2, v3]
def RPrc (H : Heap) (S : Nat → Prop) (p : Prc) (cs : List Value) : Prop := ∃ v1 v2 v3, cs = pc5 p.at_ p.name v1 v2 v3 ∧ repIdn.G H S v1 p.params ∧ repIdn.G H S v2 p.vars ∧ repStm.G H S v3 p.body
def repPrc : Rep Prc where
  k := 5
  R := RPrc
  len h := by obtain ⟨v1, v2, v3, rfl, _⟩ := h; rfl
  move k hs b cs h := by
    obtain ⟨v1, v2, v3, e, h1, h2, h3⟩ := h
    exact ⟨v1, v2, v3, e, repIdn.G_move k hs h1, repIdn.G_move k hs h2, repStm.G_move k hs h3⟩
def tBegin : ByteArray := ⟨#[98, 101, 103, 105, 110]⟩
def tEnd : ByteArray := ⟨#[101, 110, 100]⟩
def identsL (L : List Tk) : Nat → List Idn → Bool → PS → Option (List Idn × PS)
  | 0, _, _, _ => none
  | n + 1, acc, again, s =>
    if again = true ∧ s.c = 0 then identsL L n (acc ++ [nameP L s]) (isP L (nameS L s) comma) (takeS L (nameS L s) comma) else some (acc, s)
def varsL (L : List Tk) : Nat → List Idn → PS → Option (List Idn × PS)
  | 0, _, _ => none
  | n + 1, acc, s =>
    if isP L s tVar = true then varsL L n (acc ++ [nameP L s.on]) (mustS L (nameS L s.on) tSemi) else some (acc, s)
def paramsP (L : List Tk) (n : Nat) (s : PS) : Option (List Idn × PS) :=
  if isP L s (b1 41) = true then some ([], s) else identsL L n [] true s
def procP (B : BrP) (L : List Tk) (n : Nat) (s : PS) : Option (Prc × PS) :=
  (paramsP L n (mustS L (nameS L s) (b1 40))).bind fun a =>
    (varsL L n [] (mustS L (mustS L a.2 (b1 41)) tSemi)).bind fun b =>
      (stmtsL B L n 1 [] true (mustS L b.2 tBegin)).map fun c =>
        (⟨(nameP L s).at_, (nameP L s).name, a.1, b.1, c.1⟩, mustS L (mustS L c.2 tEnd) tSemi)
theorem identsL_le {L : List Tk} : ∀ {n : Nat} {acc : List Idn} {again : Bool} {s s' : PS} {l : List Idn}, identsL L n acc again s = some (l, s') → s.le s'
  | 0, _, _, _, _, _, h => by cases h
  | n + 1, acc, again, s, s', l, h => by
    rw [identsL] at h
    split at h
    · exact ((nameS_le L s).1.le_trans (takeS_le _ _ _)).le_trans (identsL_le h)
    · cases h; exact PS.le_refl _
theorem varsL_le {L : List Tk} : ∀ {n : Nat} {acc : List Idn} {s s' : PS} {l : List Idn}, varsL L n acc s = some (l, s') → s.le s'
  | 0, _, _, _, _, h => by cases h
  | n + 1, acc, s, s', l, h => by
    rw [varsL] at h
    split at h
    · exact (((PS.le_on s).le_trans (nameS_le L s.on).1).le_trans (mustS_le _ _ _)).le_trans (varsL_le h)
    · cases h; exact PS.le_refl _
theorem procP_lt {B : BrP} {L : List Tk} (hB : BLt B L) {n : Nat} {s s' : PS} {p : Prc} (h : procP B L n s = some (p, s')) : s.lt s' := by
  unfold procP at h
  simp only [Option.bind_eq_some_iff, Option.map_eq_some_iff] at h
  obtain ⟨⟨a, s1⟩, h1, ⟨b, s2⟩, h2, ⟨c, s3⟩, h3, h4⟩ := h
  cases h4
  have k1 : (mustS L (nameS L s) (b1 40)).le s1 := by
    unfold paramsP at h1
    split at h1
    · cases h1; exact PS.le_refl _
    · exact identsL_le h1
  exact (name_lt L s).le_trans ((((mustS_le _ _ _).le_trans k1).le_trans (((mustS_le _ _ _).le_trans (mustS_le _ _ _)).le_trans (varsL_le h2))).le_trans (((mustS_le _ _ _).le_trans ((st_le hB n).2.1 _ _ _ _ _ _ h3)).le_trans ((mustS_le _ _ _).le_trans (mustS_le _ _ _))))
theorem tf_idn : TF Try.prog 52 2 := ⟨_, _, _, by simp, by simp, by simp; rfl, by omega, by simp; rfl, rfl, by omega, rfl⟩
theorem tf_prc : TF Try.prog 36 5 := ⟨_, _, _, by simp, by simp, by simp; rfl, by omega, by simp; rfl, rfl, by omega, rfl⟩
theorem pl_proc0 : planOf Try.prog (drawN Try.f40 0) = some [(some (0, 2)), (some (0, 2)), none, none, none, none, none, none] := by decide +kernel
theorem pl_proc1 : planOf Try.prog (drawN Try.f40 1) = some [(some (0, 2)), (some (0, 2)), none, none, none, none, none, none] := by decide +kernel
end Go.Vm.Parse
namespace Go.Vm.Parse
open Go Go.Proofs
set_option maxRecDepth 100000
set_option maxHeartbeats 4000000
set_option linter.unusedSimpArgs false
set_option linter.unusedVariables false
attribute [local simp] repCells_succ writeAt rd_Fr toList_beq gpe gpn spe gse gsn ne_r0 ne_l0 le_s0 ne_r1 ne_l1 lt_s1 le_s1 ne_r2 ne_l2 lt_s2 le_s2 ne_r3 ne_l3 lt_s3 le_s3 ne_r4 ne_l4 lt_s4 le_s4 ne_r5 ne_l5 lt_s5 le_s5 ne_r6 ne_l6 lt_s6 le_s6 ne_r7 ne_l7 lt_s7 le_s7
/-- One more in a list in a variable. -/
theorem Loc.grow {α : Type} (ρ : Rep α) {t : TypeId} (T : TF Try.prog t ρ.k) {Hp : Heap} {r lid : Nat} {L : List Tk} {sid : Nat} {s : PS} {sc : List Value} {K : Heap} (l : Loc Hp r lid L sid s sc K) {v : Value} {acc : List α}
    (g : ρ.G K (fun i => sid < i) v acc) (hl : acc.length ≤ 100000) {a : α} {c : List Value} (ha : ρ.R K (fun i => sid < i ∧ ¬ vid v i) a c) :
    ∃ b' K', exAppend Try.prog [t, t] v (.slice (some ⟨K.n, 0, none⟩) 1 1) (K.push (.row true 0 ρ.k c)) = some (.slice b' (acc.length + 1) (acc.length + 1), K') ∧ Loc Hp r lid L sid s sc K' ∧ K'.get sid = .row true 0 1 sc ∧ sid < K'.n ∧ ρ.G K' (fun i => sid < i) (.slice b' (acc.length + 1) (acc.length + 1)) (acc ++ [a]) := by
  have t1 := l.lt
  have ow := l.own
  have rl := l.rl
  have hv : ∀ i, vid v i → sid < i := fun i hi => (ρ.G_lt g hi).2
  obtain ⟨v', K', e, gv, k⟩ := ρ.G_app T g (fun i hi => by omega) hl ha
  have nk := k.n
  obtain ⟨b', rfl⟩ := ρ.G_slice gv
  have e1 : (acc ++ [a]).length = acc.length + 1 := by simp
  rw [e1] at e gv
  have g2 := k.at l.get (by simp) (fun hi => by have := hv _ hi; omega)
  exact ⟨b', K', e, ⟨⟨l.at_.same.then k (fun i hi => .inr (by have := hv _ hi; omega)), l.at_.rd.keep k (fun hi => by have := hv _ hi; omega) (fun hi => by have := hv _ hi; omega)⟩, g2, by omega, ow, rl⟩, g2, by omega, gv⟩
/-- The same, from a place on. -/
theorem Loc.grow2 {α : Type} (ρ : Rep α) {t : TypeId} (T : TF Try.prog t ρ.k) {Hp : Heap} {r lid : Nat} {L : List Tk} {sid : Nat} {s : PS} {sc : List Value} {K : Heap} (l : Loc Hp r lid L sid s sc K) {v : Value} {acc : List α} {bd : Nat} (hbd : sid < bd) (hbk : bd ≤ K.n)
    (g : ρ.G K (fun i => bd ≤ i) v acc) (hl : acc.length ≤ 100000) {a : α} {c : List Value} (ha : ρ.R K (fun i => bd ≤ i ∧ ¬ vid v i) a c) :
    ∃ b' K', exAppend Try.prog [t, t] v (.slice (some ⟨K.n, 0, none⟩) 1 1) (K.push (.row true 0 ρ.k c)) = some (.slice b' (acc.length + 1) (acc.length + 1), K') ∧ Loc Hp r lid L sid s sc K' ∧ K'.get sid = .row true 0 1 sc ∧ sid < K'.n ∧ ρ.G K' (fun i => bd ≤ i) (.slice b' (acc.length + 1) (acc.length + 1)) (acc ++ [a]) ∧ Same (fun i => bd ≤ i) K K' := by
  have t1 := l.lt
  have ow := l.own
  have rl := l.rl
  have hv : ∀ i, vid v i → bd ≤ i := fun i hi => (ρ.G_lt g hi).2
  obtain ⟨v', K', e, gv, k⟩ := ρ.G_app T g (fun i hi => by omega) hl ha
  have nk := k.n
  obtain ⟨b', rfl⟩ := ρ.G_slice gv
  have e1 : (acc ++ [a]).length = acc.length + 1 := by simp
  rw [e1] at e gv
  have g2 := k.at l.get (by simp) (fun hi => by have := hv _ hi; omega)
  exact ⟨b', K', e, ⟨⟨l.at_.same.then k (fun i hi => .inr (by have := hv _ hi; omega)), l.at_.rd.keep k (fun hi => by have := hv _ hi; omega) (fun hi => by have := hv _ hi; omega)⟩, g2, by omega, ow, rl⟩, g2, by omega, gv, k.mono hv⟩
/-- What stands behind the parameters. -/
def ProcJ (r lid : Nat) (L : List Tk) (H : Heap) (at_ : Int) (name : ByteArray) (res : List Idn) (s' : PS) (t : List Value) (K : Heap) : Prop :=
  ∃ sid v, H.n < sid ∧ Loc (H.push (.row true 0 1 (pc5 0 ByteArray.empty nl nl nl))) r lid L sid s' (pc5 at_ name v nl nl) K ∧ repIdn.G K (fun i => sid < i) v res ∧
    t.length = 58 ∧ rd t 0 = .pointer (some ⟨r, 0, none⟩) ∧ rd t 2 = .pointer (some ⟨H.n, 0, none⟩) ∧ rd t 4 = .pointer (some ⟨sid, 0, none⟩)
def IdentsI (r lid : Nat) (L : List Tk) (H : Heap) (sid : Nat) (at_ : Int) (name : ByteArray) (res : List Idn) (s' : PS) (n m : Nat) (t : List Value) (K : Heap) : Prop :=
  m ≤ n ∧ ∃ acc again s v, identsL L m acc again s = some (res, s') ∧ rd t 5 = .bool again ∧ Loc (H.push (.row true 0 1 (pc5 0 ByteArray.empty nl nl nl))) r lid L sid s (pc5 at_ name v nl nl) K ∧ repIdn.G K (fun i => sid < i) v acc ∧ (s.c = 0 → acc.length ≤ s.p)
def VarsI (r lid : Nat) (L : List Tk) (H : Heap) (sid : Nat) (at_ : Int) (name : ByteArray) (ps : List Idn) (v : Value) (bd : Nat) (res : List Idn) (s' : PS) (n m : Nat) (t : List Value) (K : Heap) : Prop :=
  m ≤ n ∧ ∃ acc s w, varsL L m acc s = some (res, s') ∧ Loc (H.push (.row true 0 1 (pc5 0 ByteArray.empty nl nl nl))) r lid L sid s (pc5 at_ name v w nl) K ∧ repIdn.G K (fun i => sid < i ∧ i < bd) v ps ∧ repIdn.G K (fun i => bd ≤ i) w acc ∧ acc.length ≤ s.p ∧ bd ≤ K.n
/-- What stands behind the variables. -/
def VarsJ (r lid : Nat) (L : List Tk) (H : Heap) (sid : Nat) (at_ : Int) (name : ByteArray) (ps vs : List Idn) (s' : PS) (t : List Value) (K : Heap) : Prop :=
  ∃ v w, Loc (H.push (.row true 0 1 (pc5 0 ByteArray.empty nl nl nl))) r lid L sid s' (pc5 at_ name v w nl) K ∧ repIdn.G K (fun i => sid < i) v ps ∧ repIdn.G K (fun i => sid < i) w vs ∧
    t.length = 58 ∧ rd t 0 = .pointer (some ⟨r, 0, none⟩) ∧ rd t 2 = .pointer (some ⟨H.n, 0, none⟩) ∧ rd t 4 = .pointer (some ⟨sid, 0, none⟩)
section
variable {E : Hooks} (hE : Plain E) {B : BrP} {r lid : Nat} {L : List Tk}
include hE
theorem proc_run {n : Nat} (ih : StmtsOK E B r lid L n) {s s' : PS} {p : Prc} (hx : procP B L n s = some (p, s')) {H : Heap} (h : RD H r lid L s) : Gives ((run Try.prog E).call 40 [.pointer (some ⟨r, 0, none⟩)] H) (RetR repPrc H r lid L p s') := by
  have hr := h.lt
  have hl := h.lid_lt
  have hsm := h.small
  have aP : At (H.push (.row true 0 1 (pc5 0 ByteArray.empty nl nl nl))) r lid L s (H.push (.row true 0 1 (pc5 0 ByteArray.empty nl nl nl))) := ⟨Same.refl _ _, h.same (Same.push _ _ _)⟩
  obtain ⟨HA, eA, kA, hA⟩ := name_run hE aP.rd
  have aA := aP.go kA hA
  have nA := kA.n
  simp at nA
  unfold procP at hx
  simp only [Option.bind_eq_some_iff, Option.map_eq_some_iff] at hx
  obtain ⟨⟨ps, s1⟩, hx1, ⟨vs, s2⟩, hx2, ⟨bd, s3⟩, hx3, hx4⟩ := hx
  cases hx4
  generalize hnm : nameP L s = nm at *
  have aB := (aA.push (.row true 0 1 nm.cells)).push (.row true 0 1 (pc5 nm.at_ nm.name nl nl nl))
  have l0 : Loc (H.push (.row true 0 1 (pc5 0 ByteArray.empty nl nl nl))) r lid L (HA.n + 1) (nameS L s) (pc5 nm.at_ nm.name nl nl nl) ((HA.push (.row true 0 1 nm.cells)).push (.row true 0 1 (pc5 nm.at_ nm.name nl nl nl))) :=
    ⟨aB, Heap.get_push_self _ _, by simp, by simp; omega, by simp; omega, by simp; omega⟩
  obtain ⟨K1, e1, l1, -⟩ := l0.must hE (b1 40)
  obtain ⟨K2, e2, l2, -⟩ := l1.is hE (b1 41)
  rw [c_proc hE, callB, bodyOf]
  simp only [pc5, nl, Idn.cells, b1] at eA e1 e2
  simp [Try.f40, eA, e1, e2]
  refine ends_cut (ProcJ r lid L H nm.at_ nm.name ps s1) (ends_cond (fun hb => ?_) (fun hb => ?_)) ?_
  · have hi : isP L (mustS L (nameS L s) (b1 40)) (b1 41) = false := by simpa [b1] using hb
    unfold paramsP at hx1
    rw [if_neg (by simp [hi])] at hx1
    simp
    refine loop_wp (IdentsI r lid L H (HA.n + 1) nm.at_ nm.name ps s1 n) n ?_ ?_
    · exact ⟨Nat.le_refl n, [], true, _, nl, hx1, by simp, l2, repIdn.G_nil _ _, fun _ => by simp⟩
    rintro m t K hk ⟨hmn, acc, again, s4, v, hxl, g5, lF, gF, hlen⟩
    have ht : t.length = 58 := hk.1.trans (by simp [len_Bs])
    have hh := hk.all [0, 2, 4] (by decide +kernel)
    simp at hh
    obtain ⟨u0, u2, u4⟩ := hh
    have eb := bad_run hE lF.at_.rd
    cases m with
    | zero => cases hxl
    | succ m =>
    rw [identsL] at hxl
    by_cases hg : again = true ∧ s4.c = 0
    · rw [if_pos hg] at hxl
      obtain ⟨rfl, hc⟩ := hg
      obtain ⟨KA, eN, lA, kN⟩ := lF.name hE
      have gA := lF.fld gF kN
      obtain ⟨b0, rfl⟩ := repIdn.G_slice gF
      have hpl := lF.at_.rd.place
      obtain ⟨b', KB, eB, lB, gB, tB, rB⟩ := lA.grow repIdn tf_idn gA (by have := hlen hc; omega) (a := nameP L s4) (c := (nameP L s4).cells) rfl
      have lC := lB.put (pc5 nm.at_ nm.name (.slice b' (acc.length + 1) (acc.length + 1)) nl nl)
      have rC := lB.fld_put rB (.row true 0 1 (pc5 nm.at_ nm.name (.slice b' (acc.length + 1) (acc.length + 1)) nl nl))
      obtain ⟨KD, eD, kD, hD⟩ := take_run hE lC.at_.rd comma
      have lD := lC.step kD hD
      have rD := lC.fld rC kD
      have g1 := lF.get
      have g2 := lA.get
      have t2 := lA.lt
      simp only [repIdn, Idn.cells, pc5, nl, comma] at eB g1 g2 gB eD
      simp [ht, g5, u0, u2, u4, eb, hc]
      refine region_plan (by exact pl_proc0) ?_
      simp [ht, g5, u0, u2, u4, g1, g2, t2, eN, eB, gB, tB, eD]
      refine ⟨m, by omega, by omega, _, _, _, .slice b' (acc.length + 1) (acc.length + 1), hxl, by simp [ht, comma], lD, rD, fun e0 => ?_⟩
      have h1 := takeS_c L (nameS L s4) comma
      have h2 := (name_lt L s4).on (by rw [← h1.1]; exact e0)
      have h4 := hlen hc
      simp
      omega
    · rw [if_neg hg] at hxl
      cases hxl
      have out : ∀ t', t'.length = 58 → rd t' 0 = .pointer (some ⟨r, 0, none⟩) → rd t' 2 = .pointer (some ⟨H.n, 0, none⟩) → rd t' 4 = .pointer (some ⟨HA.n + 1, 0, none⟩) → ProcJ r lid L H nm.at_ nm.name ps s1 t' K :=
        fun t' h1 h2 h3 h4 => ⟨HA.n + 1, v, by omega, lF, gF, h1, h2, h3, h4⟩
      by_cases ha : again = true
      · have hc : ¬ s1.c = 0 := fun e => hg ⟨ha, e⟩
        subst ha
        simp [ht, g5, u0, u2, u4, eb, hc]
        exact out _ (by simp [ht]) (by simp [ht, u0]) (by simp [ht, u2]) (by simp [ht, u4])
      · have ha' : again = false := by simpa using ha
        subst ha'
        simp [ht, g5, u0, u2, u4]
        exact out _ (by simp [ht]) (by simp [ht, u0]) (by simp [ht, u2]) (by simp [ht, u4])
  · have hi : isP L (mustS L (nameS L s) (b1 40)) (b1 41) = true := by simpa [b1] using hb
    unfold paramsP at hx1
    rw [if_pos hi] at hx1
    cases hx1
    simp
    exact ⟨HA.n + 1, nl, by omega, l2, repIdn.G_nil _ _, by simp [len_Bs], by simp, by simp, by simp⟩
  · rintro t K ⟨sid, v, hsid, lJ, gJ, ht, u0, u2, u4⟩
    obtain ⟨K3, e3, l3, k3⟩ := lJ.must hE (b1 41)
    obtain ⟨K4, e4, l4, k4⟩ := l3.must hE tSemi
    have g4 := l3.fld (lJ.fld gJ k3) k4
    simp only [b1, tSemi] at e3 e4
    simp [ht, u0, u2, u4, e3, e4]
    refine loop_mid (VarsJ r lid L H sid nm.at_ nm.name ps vs s2) (VarsI r lid L H sid nm.at_ nm.name ps v K4.n vs s2 n) n ?_ ?_ ?_
    · exact ⟨Nat.le_refl n, [], _, nl, hx2, l4, repIdn.G_move (Same.refl (fun _ => False) _) (fun i hi hlt => ⟨⟨hi, hlt⟩, fun h => h⟩) g4, repIdn.G_nil _ _, by simp, Nat.le_refl _⟩
    · rintro m t' K' hk ⟨hmn, acc, s4, w, hxl, lF, gv, gF, hlen, hbd⟩
      have t4 := l4.lt
      have ow := lF.own
      have rl := lF.rl
      have ht' : t'.length = 58 := hk.1.trans (by simp [ht])
      have hh := hk.all [0, 2, 4] (by decide +kernel)
      simp [ht, u0, u2, u4] at hh
      obtain ⟨v0, v2, v4⟩ := hh
      cases m with
      | zero => cases hxl
      | succ m =>
      rw [varsL] at hxl
      by_cases hi : isP L s4 tVar = true
      · rw [if_pos hi] at hxl
        obtain ⟨K5, e5, l5, k5⟩ := lF.take_yes hE hi
        obtain ⟨KA, eN, lA, kN⟩ := l5.name hE
        have n5 := k5.n
        have nN := kN.n
        have gA : repIdn.G KA (fun i => K4.n ≤ i) w acc := repIdn.G_move (k5.trans kN) (fun i hi _ => ⟨hi, by omega⟩) gF
        have gvA : repIdn.G KA (fun i => sid < i ∧ i < K4.n) v ps := repIdn.G_move (k5.trans kN) (fun i hi _ => ⟨hi, by omega⟩) gv
        obtain ⟨b0, rfl⟩ := repIdn.G_slice gF
        obtain ⟨bv, rfl⟩ := repIdn.G_slice gv
        have hpl := lF.at_.rd.place
        obtain ⟨b', KB, eB, lB, gB, tB, rB, kB⟩ := lA.grow2 repIdn tf_idn (bd := K4.n) (by omega) (by omega) gA (by omega) (a := nameP L s4.on) (c := (nameP L s4.on).cells) rfl
        have nB := kB.n
        have gvB : repIdn.G KB (fun i => sid < i ∧ i < K4.n) _ ps := repIdn.G_move kB (fun i hi _ => ⟨hi, by omega⟩) gvA
        have lC := lB.put (pc5 nm.at_ nm.name (.slice bv ps.length ps.length) (.slice b' (acc.length + 1) (acc.length + 1)) nl)
        have rC := repIdn.G_set rB tB (S' := fun i => K4.n ≤ i) (fun j hj => ⟨hj, by omega⟩) (.row true 0 1 (pc5 nm.at_ nm.name (.slice bv ps.length ps.length) (.slice b' (acc.length + 1) (acc.length + 1)) nl))
        have rvC := repIdn.G_set gvB tB (S' := fun i => sid < i ∧ i < K4.n) (fun j hj => ⟨hj, by omega⟩) (.row true 0 1 (pc5 nm.at_ nm.name (.slice bv ps.length ps.length) (.slice b' (acc.length + 1) (acc.length + 1)) nl))
        obtain ⟨KD, eD, lD, kD⟩ := lC.must hE tSemi
        have nD := kD.n
        simp at nD
        have rD : repIdn.G KD (fun i => K4.n ≤ i) _ _ := repIdn.G_move kD (fun i hi _ => ⟨hi, by omega⟩) rC
        have rvD : repIdn.G KD (fun i => sid < i ∧ i < K4.n) _ _ := repIdn.G_move kD (fun i hi _ => ⟨hi, by omega⟩) rvC
        have g1 := l5.get
        have g2 := lA.get
        have t2 := lA.lt
        simp only [repIdn, Idn.cells, pc5, nl, tSemi, tVar] at e5 eB g1 g2 gB eD
        simp [ht', v0, v2, v4, e5]
        refine region_plan (by exact pl_proc1) ?_
        simp [ht', v0, v2, v4, g1, g2, t2, eN, eB, gB, tB, eD]
        refine ⟨m, by omega, by omega, _, _, .slice b' (acc.length + 1) (acc.length + 1), hxl, lD, rvD, rD, ?_, by omega⟩
        have := ((nameS_le L s4.on).1.le_trans (mustS_le L _ tSemi)).place
        simp [PS.on] at this ⊢
        omega
      · rw [if_neg hi] at hxl
        cases hxl
        have hi' : isP L s2 tVar = false := by simpa using hi
        obtain ⟨K5, e5, l5, k5⟩ := lF.take_no hE hi'
        simp only [tVar] at e5
        simp [ht', v0, v2, v4, e5]
        exact ⟨v, w, l5, lF.fld (repIdn.G_move (Same.refl (fun _ => False) _) (fun i hi _ => ⟨hi.1, fun h => h⟩) gv) k5, lF.fld (repIdn.G_move (Same.refl (fun _ => False) _) (fun i hi _ => ⟨by omega, fun h => h⟩) gF) k5, by simp [ht'], by simp [ht', v0], by simp [ht', v2], by simp [ht', v4]⟩
    · rintro t' K' hk ⟨v, w, lF, gv, gF, ht', v0, v2, v4⟩
      obtain ⟨K5, e5, l5, k5⟩ := lF.must hE tBegin
      obtain ⟨o, K6, e6, x, rfl, k6, d6, g6⟩ := ih _ _ _ _ hx3 (by omega) (by omega) _ l5.at_.rd
      have l6 := l5.step k6 d6
      obtain ⟨bb, rfl⟩ := repStm.G_slice g6
      obtain ⟨bv, rfl⟩ := repIdn.G_slice gv
      obtain ⟨bw, rfl⟩ := repIdn.G_slice gF
      have t5 := l5.lt
      have g6' : repStm.G K6 (fun i => sid < i) (.slice bb bd.length bd.length) bd := repStm.G_move (Same.refl (fun _ => False) _) (fun i hi _ => ⟨by omega, fun h => h⟩) g6
      have l7 := l6.put (pc5 nm.at_ nm.name (.slice bv ps.length ps.length) (.slice bw vs.length vs.length) (.slice bb bd.length bd.length))
      obtain ⟨K8, e8, l8, k8⟩ := l7.must hE tEnd
      obtain ⟨K9, e9, l9, k9⟩ := l8.must hE tSemi
      have mv : ∀ {α : Type} {ρ : Rep α} {v : Value} {q : List α}, ρ.G K6 (fun i => sid < i) v q → ρ.G K9 (fun i => sid < i) v q := fun g => l8.fld (l7.fld (l6.fld_put g _) k8) k9
      have f1 := mv (l5.fld (lF.fld gv k5) k6)
      have f2 := mv (l5.fld (lF.fld gF k5) k6)
      have f3 := mv g6'
      have gl6 := l6.get
      have tl6 := l6.lt
      have gl9 := l9.get
      have hz : K9.get H.n = .row true 0 1 (pc5 0 ByteArray.empty nl nl nl) := l9.at_.same.at (Heap.get_push_self _ _) (by simp) (by omega)
      have hz2 : H.n < K9.n := by have := l9.at_.n; simp at this; omega
      simp only [tBegin, tEnd, tSemi, pc5, nl] at e5 e6 gl6 e8 e9 gl9 hz
      simp [ht', v0, v2, v4, e5, e6, gl6, tl6, e8, e9, gl9, hz, hz2]
      exact ret_rep repPrc hr hl l9.at_ (a := ⟨nm.at_, nm.name, ps, vs, bd⟩) (repPrc.move (Same.refl (fun _ => False) _) (S := fun i => sid < i) (fun i hi _ => ⟨by omega, fun h => h⟩) _ _ ⟨_, _, _, rfl, f1, f2, f3⟩) _
end
end Go.Vm.Parse
namespace Go.Vm.Parse
open Go Go.Proofs
set_option maxRecDepth 100000
set_option maxHeartbeats 4000000
set_option linter.unusedSimpArgs false
set_option linter.unusedVariables false
attribute [local simp] repCells_succ writeAt rd_Fr toList_beq gpe gpn spe gse gsn ne_r0 ne_l0 le_s0 ne_r1 ne_l1 lt_s1 le_s1 ne_r2 ne_l2 lt_s2 le_s2 ne_r3 ne_l3 lt_s3 le_s3 ne_r4 ne_l4 lt_s4 le_s4 ne_r5 ne_l5 lt_s5 le_s5 ne_r6 ne_l6 lt_s6 le_s6 ne_r7 ne_l7 lt_s7 le_s7
structure Src where
  name : ByteArray
  decls : List Dcl
  procs : List Prc
  claims : List Itm
  body : List Stm
def sr5 (x : ByteArray) (v1 v2 v3 v4 : Value) : List Value := [.string x, v1, v2, v3, v4]
def RSrc (H : Heap) (S : Nat → Prop) (p : Src) (cs : List Value) : Prop := ∃ v1 v2 v3 v4, cs = sr5 p.name v1 v2 v3 v4 ∧ repDcl.G H S v1 p.decls ∧ repPrc.G H S v2 p.procs ∧ repItm.G H S v3 p.claims ∧ repStm.G H S v4 p.body
theorem RSrc.move {X S S' : Nat → Prop} {H H' : Heap} (k : Same X H H') (hs : ∀ i, S i → i < H.n → S' i ∧ ¬ X i) {p : Src} {cs : List Value} (h : RSrc H S p cs) : RSrc H' S' p cs := by
  obtain ⟨v1, v2, v3, v4, e, h1, h2, h3, h4⟩ := h
  exact ⟨v1, v2, v3, v4, e, repDcl.G_move k hs h1, repPrc.G_move k hs h2, repItm.G_move k hs h3, repStm.G_move k hs h4⟩
def tProgram : ByteArray := ⟨#[112, 114, 111, 103, 114, 97, 109]⟩
def tProcedure : ByteArray := ⟨#[112, 114, 111, 99, 101, 100, 117, 114, 101]⟩
def procsL (B : BrP) (L : List Tk) : Nat → List Prc → PS → Option (List Prc × PS)
  | 0, _, _ => none
  | n + 1, acc, s =>
    if isP L s tProcedure = true then (procP B L n s.on).bind fun q => procsL B L n (acc ++ [q.1]) q.2 else some (acc, s)
def claimsP (L : List Tk) (n : Nat) (s : PS) : Option (List Itm × PS) :=
  if isP L s tClaims = true then (itemsL L n [] true s.on).map fun q => (q.1, mustS L q.2 tSemi) else some ([], s)
def endS (L : List Tk) (s : PS) : PS := if (tok L s.p).kind = 5 then s else faultS L s 14
/-- What stands in tokens: a source, or the first fault. -/
def srcP (B : BrP) (L : List Tk) (n : Nat) : Option (Src ⊕ (Int × Int)) :=
  (declsL L n [] (mustS L (nameS L (mustS L ⟨0, 0, 0⟩ tProgram)) tSemi)).bind fun d =>
    (procsL B L n [] d.2).bind fun p =>
      (claimsP L n p.2).bind fun c =>
        (stmtsL B L n 1 [] true (mustS L c.2 tBegin)).map fun b =>
          let s := endS L (mustS L (mustS L b.2 tEnd) (b1 46))
          if s.c = 0 then .inl ⟨(nameP L (mustS L ⟨0, 0, 0⟩ tProgram)).name, d.1, p.1, c.1, b.1⟩ else .inr (s.c, s.a)
/-- What stands in bytes. -/
def parseP (B : BrP) (src : List UInt8) (n : Nat) : Option (Src ⊕ (Int × Int)) :=
  (lexFrom src (src.length + 1) 0 []).bind fun q => match q with
    | .inr f => some (.inr f)
    | .inl L => srcP B L n
/-- What a call that parses must give. -/
def RetP (H : Heap) (res : Src ⊕ (Int × Int)) (o : Out) (H' : Heap) : Prop :=
  Same (fun _ => False) H H' ∧ match res with
  | .inr (c, p) => o = .val (.tuple #[.agg ⟨sr5 ByteArray.empty nl nl nl nl⟩, .agg #[.int .i64 c, .int .i64 p]])
  | .inl S => ∃ cs, o = .val (.tuple #[.agg ⟨cs⟩, .agg #[.int .i64 0, .int .i64 0]]) ∧ RSrc H' (fun i => H.n ≤ i) S cs
theorem pl_parse0 : planOf Try.prog (drawN Try.f13 0) = some [none, (some (0, 1)), none, none] := by decide +kernel
theorem pl_parse1 : planOf Try.prog (drawN Try.f13 1) = some [(some (0, 2)), (some (0, 2)), none, none, none, none, none, none] := by decide +kernel
theorem pl_parse2 : planOf Try.prog (drawN Try.f13 2) = some [none, (some (0, 1)), (some (0, 1)), (some (0, 1)), (some (0, 1)), none, none] := by decide +kernel
end Go.Vm.Parse
