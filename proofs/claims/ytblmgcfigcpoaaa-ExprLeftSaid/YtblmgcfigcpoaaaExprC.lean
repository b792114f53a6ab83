/- What is proved: what the texts that ExprLeft makes are read as. -/
import Derived.Test.YtblmgcfigcpoaaaExprD
namespace Go.Vm.Ex
open Go Go.Proofs Go.Vm.Parse Go.Vm.ExprLaw
set_option maxRecDepth 100000
set_option maxHeartbeats 4000000
set_option linter.unusedSimpArgs false
set_option linter.unusedVariables false
def sB (row k : Nat) : UInt8 := match row, k with | 0, 0 => 43 | 0, _ => 45 | _, 0 => 42 | _, 1 => 47 | _, _ => 37
def sOp (row k : Nat) : Int := match row, k with | 0, 0 => 9 | 0, _ => 10 | _, 0 => 11 | _, 1 => 12 | _, _ => 13
def dB (i : Nat) : UInt8 := UInt8.ofNat (50 + i % 8)
def dg : Nat → UInt8
  | 0 => 49
  | i + 1 => dB i
theorem dB_tab : ∀ r, r < 8 → digitB (UInt8.ofNat (50 + r)) = true ∧ (UInt8.ofNat (50 + r)).toNat = 50 + r := by decide
theorem dB_nat (i : Nat) : (dB i).toNat = 50 + i % 8 := (dB_tab (i % 8) (Nat.mod_lt _ (by omega))).2
theorem dg_digit (i : Nat) : digitB (dg i) = true := by
  cases i with
  | zero => rfl
  | succ i => exact (dB_tab (i % 8) (Nat.mod_lt _ (by omega))).1
def chainOne (row : Nat) (k : Nat → Nat) (i : Nat) : List UInt8 := [32, sB row (k i), 32, dB i]
def chainL (row : Nat) (k : Nat → Nat) (n : Nat) : List UInt8 := 49 :: gcat (chainOne row k) 0 n
def chainTwo (row : Nat) (k : Nat → Nat) (i : Nat) : List UInt8 := [dg i, 32, sB row (k i), 32]
theorem chainL_eq (row : Nat) (k : Nat → Nat) : ∀ n, chainL row k n = gcat (chainTwo row k) 0 n ++ [dg n]
  | 0 => rfl
  | n + 1 => by
    have ih := chainL_eq row k n
    unfold chainL at ih ⊢
    rw [gcat_snoc, gcat_snoc, ← List.cons_append, ih, Nat.zero_add]
    simp [chainOne, chainTwo, dg]
theorem chainL_snoc (row : Nat) (k : Nat → Nat) (n : Nat) : chainL row k (n + 1) = chainL row k n ++ [32, sB row (k n), 32, dB n] := by
  unfold chainL
  rw [gcat_snoc, Nat.zero_add]
  rfl
theorem chainL_len (row : Nat) (k : Nat → Nat) : ∀ n, (chainL row k n).length = 4 * n + 1
  | 0 => rfl
  | n + 1 => by rw [chainL_snoc, List.length_append, chainL_len row k n]; simp; omega
def nT (i : Nat) : Tk := ⟨2, 4 * i, ((dg i).toNat : Int) - 48, ByteArray.empty⟩
def toksC (row : Nat) (k : Nat → Nat) (n : Nat) : List Tk := gcat (fun i => [nT i, sgTk (sB row (k i)) (4 * i + 2)]) 0 n ++ [nT n, endTk2 (4 * n + 1)]
theorem sg_tab : ∀ row, row < 2 → ∀ j, j < 2 + row → oneS (sB row j) = true ∧ twoS ⟨#[sB row j, 32]⟩ = false ∧ opFrom (5 + row : Nat) (b1 (sB row j)) opsL = sOp row j ∧ sOp row j ≠ 0 ∧ ∀ r, r < 9 → r ≠ 5 + row → opFrom (r : Nat) (b1 (sB row j)) opsL = 0 := by decide +kernel
theorem signP_sp {c : UInt8} {l : List UInt8} (h1 : oneS c = true) (h2 : twoS ⟨#[c, 32]⟩ = false) : signP (c :: 32 :: l) = 1 := by
  simp [signP, h1, h2]
theorem lexC {row : Nat} {k : Nat → Nat} {n : Nat} (hr : row < 2) (hk : ∀ i, i < n → k i < 2 + row) : Lx (chainL row k n) 0 (toksC row k n) := by
  rw [chainL_eq]
  have hm : Lx [dg n] (4 * n) [nT n, endTk2 (4 * n + 1)] := Lx.digit (c := dg n) (l := []) (a := 4 * n) (dg_digit n) rfl (Lx.nil (4 * n + 1))
  exact Lx.gcat (f := chainTwo row k) (g := fun i => [nT i, sgTk (sB row (k i)) (4 * i + 2)]) (o := fun i => 4 * i) (N := n) (fun i hi l toks h => by
    obtain ⟨h1, h2, _⟩ := sg_tab row hr (k i) (hk i hi)
    exact Lx.digit (c := dg i) (dg_digit i) rfl (Lx.blank (Lx.sign h1 (signP_sp h1 h2) (Lx.blank h)))) n 0 (by omega) (by rw [Nat.zero_add]; exact hm)
def nE (i : Nat) : Ex := .mk 1 ((4 * i : Nat) : Int) (((dg i).toNat : Int) - 48) 0 ByteArray.empty []
def cE (row : Nat) (k : Nat → Nat) : Nat → Ex
  | 0 => nE 0
  | i + 1 => .mk 6 ((4 * i + 2 : Nat) : Int) 0 (sOp row (k i)) ByteArray.empty [cE row k i, nE (i + 1)]
theorem XR.loop {L : List Tk} {k lv : Int} {x e1 e2 : Ex} {s s1 s2 : PS} (ho : opP L s k ≠ 0) (hk : k ≠ 4) (h1 : XR L (.row (k + 1) lv) s.on e1 s1) (h2 : XR L (.loop k lv (.mk 6 (tok L s.p).at_ 0 (opP L s k) ByteArray.empty [x, e1])) s1 e2 s2) : XR L (.loop k lv x) s e2 s2 := by
  obtain ⟨N1, h1⟩ := h1
  obtain ⟨N2, h2⟩ := h2
  refine ⟨max N1 N2 + 1, fun n hn => ?_⟩
  obtain ⟨m, rfl⟩ : ∃ m, n = m + 1 := ⟨n - 1, by omega⟩
  rw [xP, if_neg ho, h1 m (by omega)]
  show (if k = 4 then _ else xP L m (.loop k lv (.mk 6 (tok L s.p).at_ 0 (opP L s k) ByteArray.empty [x, e1])) s1) = _
  rw [if_neg hk, h2 m (by omega)]
theorem XR.bin {L : List Tk} {k lv : Int} {e1 e2 : Ex} {s s1 s2 : PS} (hk : k ≠ 7 ∧ k ≠ 3) (hc : s.c = 0) (h1 : XR L (.row (k + 1) lv) s e1 s1) (h2 : XR L (.loop k lv e1) s1 e2 s2) : XR L (.row k lv) s e2 s2 := by
  obtain ⟨N1, h1⟩ := h1
  obtain ⟨N2, h2⟩ := h2
  refine ⟨max N1 N2 + 1, fun n hn => ?_⟩
  obtain ⟨m, rfl⟩ : ∃ m, n = m + 1 := ⟨n - 1, by omega⟩
  rw [xP, if_neg (by simpa using hc), if_neg hk.1, if_neg hk.2, h1 m (by omega)]
  exact h2 m (by omega)
theorem chain_xr {row : Nat} {k : Nat → Nat} {n : Nat} (hr : row < 2) (hk : ∀ i, i < n → k i < 2 + row) {L : List Tk} (hL : L = toksC row k n) :
    (∀ i, i < n → tok L (2 * i + 1) = sgTk (sB row (k i)) (4 * i + 2)) ∧ L.length = 2 * n + 2 ∧ XR L (.row 1 1) ⟨0, 0, 0⟩ (cE row k n) ⟨2 * n + 1, 0, 0⟩ := by
  have g2 := gcat2_get nT (fun i => sgTk (sB row (k i)) (4 * i + 2)) endTk [nT n, endTk2 (4 * n + 1)] n 0
  have p2 := gcat2_past nT (fun i => sgTk (sB row (k i)) (4 * i + 2)) endTk [nT n, endTk2 (4 * n + 1)] n 0
  have tN : ∀ i, i ≤ n → tok L (2 * i) = nT i := fun i hi => by
    rw [hL]
    rcases Nat.lt_or_ge i n with h | h
    · have := (g2 i h).1; rw [Nat.zero_add] at this; exact this
    · obtain rfl : i = n := by omega
      exact p2 0
  have tS : ∀ i, i < n → tok L (2 * i + 1) = sgTk (sB row (k i)) (4 * i + 2) := fun i hi => by
    rw [hL]; have := (g2 i hi).2; rw [Nat.zero_add] at this; exact this
  have tE : tok L (2 * n + 1) = endTk2 (4 * n + 1) := by rw [hL]; exact p2 1
  have hlen : ∀ n i, (gcat (fun i => [nT i, sgTk (sB row (k i)) (4 * i + 2)]) i n).length = 2 * n := by
    intro n
    induction n with
    | zero => intro i; rfl
    | succ n ih => intro i; rw [gcat, List.length_append, ih]; simp; omega
  refine ⟨tS, by rw [hL, toksC, List.length_append, hlen]; rfl, ?_⟩
  have oS : ∀ i, i < n → opP L ⟨2 * i + 1, 0, 0⟩ (5 + row : Nat) = sOp row (k i) := fun i hi => by
    unfold opP
    rw [if_pos ⟨rfl, .inl (by show (tok L (2 * i + 1)).kind = 4; rw [tS i hi]; rfl)⟩]
    show opFrom _ (tok L (2 * i + 1)).text opsL = _
    rw [tS i hi]
    exact (sg_tab row hr (k i) (hk i hi)).2.2.1
  have oE : ∀ r : Int, opP L ⟨2 * n + 1, 0, 0⟩ r = 0 := fun r => op_none (.inr (.inl (by show (tok L (2 * n + 1)).kind = 5; rw [tE]; rfl))) r
  have oZ : ∀ i, i ≤ n → ∀ r : Nat, r < 9 → r ≠ 5 + row → opP L ⟨2 * i + 1, 0, 0⟩ r = 0 := fun i hi r h1 h2 => by
    rcases Nat.lt_or_ge i n with h | h
    · unfold opP
      rw [if_pos ⟨rfl, .inl (by show (tok L (2 * i + 1)).kind = 4; rw [tS i h]; rfl)⟩]
      show opFrom _ (tok L (2 * i + 1)).text opsL = _
      rw [tS i h]
      exact (sg_tab row hr (k i) (hk i h)).2.2.2.2 r h1 h2
    · obtain rfl : i = n := by omega
      exact oE r
  have hN : ∀ i, i ≤ n → XR L (.fact 1) ⟨2 * i, 0, 0⟩ (nE i) ⟨2 * i + 1, 0, 0⟩ := fun i hi => ⟨1, fun m hm => by
    obtain ⟨m, rfl⟩ : ∃ m', m = m' + 1 := ⟨m - 1, by omega⟩
    have ht := tN i hi
    rw [xP, if_neg (by simp [isP, ht, nT]), if_pos (by simp [ht, nT])]
    simp [ht, nT, nE, PS.on]⟩
  have h7 : ∀ i, i ≤ n → XR L (.row 7 1) ⟨2 * i, 0, 0⟩ (nE i) ⟨2 * i + 1, 0, 0⟩ := fun i hi => (hN i hi).step fun n hx => by rw [xP, if_neg (by simp), if_pos rfl]; exact hx
  have hR : ∀ i, i ≤ n → XR L (.row (((5 + row : Nat) : Int) + 1) 1) ⟨2 * i, 0, 0⟩ (nE i) ⟨2 * i + 1, 0, 0⟩ := fun i hi => by
    rcases (show row = 0 ∨ row = 1 by omega) with rfl | rfl
    · exact XR.low (k := 6) (by omega) rfl (h7 i hi) (oZ i hi 6 (by omega) (by omega))
    · exact h7 i hi
  have hl : ∀ j i, i + j = n → XR L (.loop (5 + row : Nat) 1 (cE row k i)) ⟨2 * i + 1, 0, 0⟩ (cE row k n) ⟨2 * n + 1, 0, 0⟩ := by
    intro j
    induction j with
    | zero =>
      intro i hi
      obtain rfl : i = n := by omega
      exact ⟨1, fun m hm => by
        obtain ⟨m, rfl⟩ : ∃ m', m = m' + 1 := ⟨m - 1, by omega⟩
        rw [xP, if_pos (oE _)]⟩
    | succ j ih =>
      intro i hi
      have ht := tS i (by omega)
      refine XR.loop (by rw [oS i (by omega)]; exact (sg_tab row hr (k i) (hk i (by omega))).2.2.2.1) (by omega) (hR (i + 1) (by omega)) ?_
      rw [oS i (by omega)]
      show XR L (.loop _ 1 (.mk 6 (tok L (2 * i + 1)).at_ 0 _ _ _)) _ _ _
      rw [ht]
      exact ih (i + 1) (by omega)
  have h5 : XR L (.row (5 + row : Nat) 1) ⟨0, 0, 0⟩ (cE row k n) ⟨2 * n + 1, 0, 0⟩ := XR.bin (by omega) rfl (hR 0 (by omega)) (hl n 0 (by omega))
  have h5 : XR L (.row 5 1) ⟨0, 0, 0⟩ (cE row k n) ⟨2 * n + 1, 0, 0⟩ := by
    rcases (show row = 0 ∨ row = 1 by omega) with rfl | rfl
    · exact h5
    · exact XR.low (k := 5) (by omega) rfl h5 (oE 5)
  have h4 := XR.low (k := 4) (by omega) rfl h5 (oE 4)
  have h3 : XR L (.row 3 1) ⟨0, 0, 0⟩ (cE row k n) ⟨2 * n + 1, 0, 0⟩ := h4.step fun m hx => by
    have ht := tN 0 (by omega)
    rw [xP, if_neg (by simp), if_neg (by omega), if_pos rfl, if_pos (by simp [isP, ht, nT])]; exact hx
  exact XR.low (k := 1) (by omega) rfl (XR.low (k := 2) (by omega) rfl h3 (oE 2)) (oE 1)
end Go.Vm.Ex
