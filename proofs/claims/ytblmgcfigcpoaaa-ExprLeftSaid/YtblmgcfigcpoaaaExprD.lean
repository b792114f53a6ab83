/- What is proved: what the texts that ExprDeep makes are read as. -/
import Derived.Test.YtblmgcfigcpoaaaExprP
import Derived.Test.YtblmgcfigcpoaaaStr
namespace Go.Vm.Ex
open Go Go.Proofs Go.Vm.Parse Go.Vm.ExprLaw
set_option maxRecDepth 100000
set_option maxHeartbeats 4000000
set_option linter.unusedSimpArgs false
set_option linter.unusedVariables false
/-! ### What is read, from some number of steps on -/
def XR (L : List Tk) (cmd : XC) (s : PS) (e : Ex) (s' : PS) : Prop := ∃ N, ∀ n, N ≤ n → xP L n cmd s = some (e, s')
theorem XR.step {L : List Tk} {c d : XC} {s t : PS} {e : Ex} {s' : PS} (h : XR L d t e s') (k : ∀ n, xP L n d t = some (e, s') → xP L (n + 1) c s = some (e, s')) : XR L c s e s' := by
  obtain ⟨N, h⟩ := h
  refine ⟨N + 1, fun n hn => ?_⟩
  obtain ⟨m, rfl⟩ : ∃ m, n = m + 1 := ⟨n - 1, by omega⟩
  exact k m (h m (by omega))
theorem XR.map {L : List Tk} {c d : XC} {s t : PS} {e e2 : Ex} {s' s2 : PS} (h : XR L d t e s') (k : ∀ n, xP L n d t = some (e, s') → xP L (n + 1) c s = some (e2, s2)) : XR L c s e2 s2 := by
  obtain ⟨N, h⟩ := h
  refine ⟨N + 1, fun n hn => ?_⟩
  obtain ⟨m, rfl⟩ : ∃ m, n = m + 1 := ⟨n - 1, by omega⟩
  exact k m (h m (by omega))
theorem XR.low {L : List Tk} {k lv : Int} {s s' : PS} {e : Ex} (hk : k ≠ 7 ∧ k ≠ 3) (hc : s.c = 0) (h : XR L (.row (k + 1) lv) s e s') (ho : opP L s' k = 0) : XR L (.row k lv) s e s' := by
  obtain ⟨N, h⟩ := h
  refine ⟨N + 2, fun n hn => ?_⟩
  obtain ⟨m, rfl⟩ : ∃ m, n = m + 1 + 1 := ⟨n - 2, by omega⟩
  rw [xP, if_neg (by simpa using hc), if_neg hk.1, if_neg hk.2, h (m + 1) (by omega)]
  show xP L (m + 1) (.loop k lv e) s' = _
  rw [xP, if_pos ho]
/-- One fact is an expression, if no sign stands behind it. -/
theorem XR.atom {L : List Tk} {lv : Int} {s s' : PS} {e : Ex} (hc : s.c = 0) (hn : isP L s tNot = false) (ho : ∀ k, opP L s' k = 0) (h : XR L (.fact lv) s e s') : XR L (.row 1 lv) s e s' := by
  have h7 : XR L (.row 7 lv) s e s' := h.step fun n hx => by rw [xP, if_neg (by simpa using hc), if_pos rfl]; exact hx
  have h4 := XR.low (k := 4) (by omega) hc (XR.low (k := 5) (by omega) hc (XR.low (k := 6) (by omega) hc h7 (ho 6)) (ho 5)) (ho 4)
  have h3 : XR L (.row 3 lv) s e s' := h4.step fun n hx => by rw [xP, if_neg (by simpa using hc), if_neg (by omega), if_pos rfl, if_pos hn]; exact hx
  exact XR.low (k := 1) (by omega) hc (XR.low (k := 2) (by omega) hc h3 (ho 2)) (ho 1)
theorem op_none {L : List Tk} {s : PS} (h : s.c ≠ 0 ∨ (tok L s.p).kind = 5 ∨ ∀ x ∈ opsL, x.1 ≠ (tok L s.p).text) (k : Int) : opP L s k = 0 := by
  unfold opP
  split
  · rename_i hc
    rcases h with h | h | h
    · exact absurd hc.1 h
    · omega
    · have key : ∀ l : List (ByteArray × Int × Int), (∀ x ∈ l, x.1 ≠ (tok L s.p).text) → opFrom k (tok L s.p).text l = 0 := by
        intro l
        induction l with
        | nil => intro _; rfl
        | cons x l ih =>
          intro hl
          obtain ⟨t, r, o⟩ := x
          simp only [opFrom]
          rw [if_neg (fun h => hl (t, r, o) (by simp) h.1)]
          exact ih fun y hy => hl y (by simp [hy])
      exact key _ h
  · rfl
/-! ### The texts and their tokens -/
theorem sg1 {c : UInt8} {l : List UInt8} (h1 : oneS c = true) (h2 : ∀ b, twoS ⟨#[c, b]⟩ = false) : signP (c :: l) = 1 := by
  cases l with
  | nil => simp [signP, h1]
  | cons b l => simp [signP, h1, h2]
theorem sg40 (l : List UInt8) : signP (40 :: l) = 1 := sg1 rfl (fun b => by simp [twoS])
theorem sg41 (l : List UInt8) : signP (41 :: l) = 1 := sg1 rfl (fun b => by simp [twoS])
theorem sg45 (l : List UInt8) : signP (45 :: l) = 1 := sg1 rfl (fun b => by simp [twoS])
theorem sg91 (l : List UInt8) : signP (91 :: l) = 1 := sg1 rfl (fun b => by simp [twoS])
theorem sg93 (l : List UInt8) : signP (93 :: l) = 1 := sg1 rfl (fun b => by simp [twoS])
def openB (k : Nat) : ByteArray := match k with | 0 => ⟨#[40]⟩ | 1 => ⟨#[45]⟩ | _ => ⟨#[97, 91]⟩
def closeB (k : Nat) : ByteArray := match k with | 0 => ⟨#[41]⟩ | 1 => ⟨#[]⟩ | _ => ⟨#[93]⟩
def openT (k : Nat) : Nat → ByteArray
  | 0 => ⟨#[]⟩
  | i + 1 => openT k i ++ openB k
def deepT (k n : Nat) : Nat → ByteArray
  | 0 => openT k n ++ ⟨#[49]⟩
  | i + 1 => deepT k n i ++ closeB k
def numTk (a : Nat) : Tk := ⟨2, a, 1, ByteArray.empty⟩
def endTk2 (a : Nat) : Tk := ⟨5, a, 0, ByteArray.empty⟩
def sgTk (c : UInt8) (a : Nat) : Tk := ⟨4, a, 0, b1 c⟩
theorem openT_list (k : Nat) : ∀ n, (openT k n).data.toList = gcat (fun _ => (openB k).data.toList) 0 n
  | 0 => rfl
  | n + 1 => by
    rw [gcat_snoc, ← openT_list k n]
    exact app_list2 _ _
theorem deepT_list (k n : Nat) : ∀ i, (deepT k n i).data.toList = gcat (fun _ => (openB k).data.toList) 0 n ++ (49 :: gcat (fun _ => (closeB k).data.toList) 0 i)
  | 0 => by
    simp only [deepT, app_list2, openT_list]
    rfl
  | i + 1 => by
    rw [gcat_snoc]
    simp only [deepT, app_list2, deepT_list k n i]
    simp
theorem gcat_one {α : Type} (f : Nat → α) : ∀ n i, gcat (fun i => [f i]) i n = (List.range' i n).map f
  | 0, i => rfl
  | n + 1, i => by
    rw [gcat, gcat_one f n (i + 1), List.range'_succ]; rfl
theorem gcat_get {α : Type} (f : Nat → α) (d : α) {n q : Nat} (h : q < n) (l : List α) : (gcat (fun i => [f i]) 0 n ++ l).getD q d = f q := by
  rw [gcat_one, List.getD_eq_getElem?_getD, List.getElem?_append_left (by simpa using h)]
  simp [h]
theorem gcat_past {α : Type} (f : Nat → α) (d : α) (n q : Nat) (l : List α) : (gcat (fun i => [f i]) 0 n ++ l).getD (n + q) d = l.getD q d := by
  rw [gcat_one, List.getD_eq_getElem?_getD, List.getElem?_append_right (by simp)]
  simp [List.getD_eq_getElem?_getD]
/-! #### Parentheses -/
def toks0 (n : Nat) : List Tk := gcat (fun i => [sgTk 40 i]) 0 n ++ (numTk n :: (gcat (fun i => [sgTk 41 (n + 1 + i)]) 0 n ++ [endTk2 (n + 1 + n)]))
theorem lex0 (n : Nat) : Lx (deepT 0 n n).data.toList 0 (toks0 n) := by
  rw [deepT_list]
  have hc := Lx.gcat (f := fun _ => (closeB 0).data.toList) (g := fun i => [sgTk 41 (n + 1 + i)]) (o := fun i => n + 1 + i) (N := n) (fun i _ l toks h => Lx.sign (c := 41) rfl (sg41 _) h) n 0 (l := []) (toks := [endTk2 (n + 1 + n)]) (by omega) (by rw [Nat.zero_add]; exact Lx.nil _)
  rw [List.append_nil] at hc
  have hd : (gcat (fun _ => (closeB 0).data.toList) 0 n).takeWhile digitB = [] := by cases n <;> rfl
  have hm := Lx.digit (c := 49) rfl hd hc
  exact Lx.gcat (f := fun _ => (openB 0).data.toList) (g := fun i => [sgTk 40 i]) (o := fun i => i) (N := n) (fun i _ l toks h => Lx.sign (c := 40) rfl (sg40 _) h) n 0 (by omega) (by rw [Nat.zero_add]; exact hm)
theorem par0 {n : Nat} {L : List Tk} (hL : L = toks0 n) : ∀ j i (lv : Int), i + j = n → lv ≤ 24 → ∃ e s', XR L (.row 1 lv) ⟨i, 0, 0⟩ e s' ∧ if lv + j ≤ 24 then s' = ⟨n + 1 + j, 0, 0⟩ else s'.c = 15 ∧ s'.a = i + (24 - lv) := by
  have tO : ∀ i, i < n → tok L i = sgTk 40 i := fun i hi => by rw [hL]; exact gcat_get (fun i => sgTk 40 i) endTk hi _
  have tN : tok L n = numTk n := by rw [hL]; exact gcat_past (fun i => sgTk 40 i) endTk n 0 _
  have tC : ∀ i, i < n → tok L (n + 1 + i) = sgTk 41 (n + 1 + i) := fun i hi => by
    rw [hL, show n + 1 + i = n + (1 + i) by omega]
    refine (gcat_past (fun i => sgTk 40 i) endTk n (1 + i) _).trans ?_
    rw [Nat.add_comm 1 i, List.getD_cons_succ, show n + (i + 1) = n + 1 + i by omega]
    exact gcat_get (fun i => sgTk 41 (n + 1 + i)) endTk hi _
  have tE : tok L (n + 1 + n) = endTk2 (n + 1 + n) := by
    rw [hL, show n + 1 + n = n + (1 + n) by omega]
    refine (gcat_past (fun i => sgTk 40 i) endTk n (1 + n) _).trans ?_
    rw [Nat.add_comm 1 n, List.getD_cons_succ, show n + (n + 1) = n + 1 + n by omega]
    exact gcat_past (fun i => sgTk 41 (n + 1 + i)) endTk n 0 _
  have quiet : ∀ j, j ≤ n → ∀ k, opP L ⟨n + 1 + j, 0, 0⟩ k = 0 := fun j hj k => by
    refine op_none ?_ k
    rcases Nat.lt_or_ge j n with h | h
    · exact .inr (.inr (by show ∀ x ∈ opsL, x.1 ≠ (tok L (n + 1 + j)).text; rw [tC j h]; show ∀ x ∈ opsL, x.1 ≠ b1 41; decide))
    · obtain rfl : j = n := by omega
      exact .inr (.inl (by show (tok L (j + 1 + j)).kind = 5; rw [tE]; rfl))
  intro j
  induction j with
  | zero =>
    intro i lv hi hlv
    obtain rfl : i = n := by omega
    refine ⟨_, _, XR.atom (e := .mk 1 i 1 0 ByteArray.empty []) (s' := ⟨i + 1, 0, 0⟩) rfl (by simp [isP, tN, numTk]) (fun k => quiet 0 (Nat.zero_le _) k) ⟨1, fun n hn => ?_⟩, ?_⟩
    · obtain ⟨m, rfl⟩ : ∃ m, n = m + 1 := ⟨n - 1, by omega⟩
      rw [xP, if_neg (by simp [isP, tN, numTk]), if_pos (by simp [tN, numTk])]
      simp [tN, numTk, PS.on]
    · rw [if_pos (by simpa using hlv)]
  | succ j ih =>
    intro i lv hi hlv
    have ho := tO i (by omega)
    have hp : isP L ⟨i, 0, 0⟩ (b1 40) = true := by simp [isP, ho, sgTk]
    have h45 : isP L ⟨i, 0, 0⟩ (b1 45) = false := by simp [isP, ho, sgTk, b1]
    have hT : isP L ⟨i, 0, 0⟩ tTrue = false := by simp [isP, ho, sgTk, b1, tTrue]
    have hF : isP L ⟨i, 0, 0⟩ tFalse = false := by simp [isP, ho, sgTk, b1, tFalse]
    have hN : isP L ⟨i, 0, 0⟩ tNot = false := by simp [isP, ho, sgTk, b1, tNot]
    have hk : ¬ (tok L i).kind = 2 := by simp [ho, sgTk]
    rcases Int.lt_or_le lv 24 with hlt | hge
    · obtain ⟨e, s1, hx, hs⟩ := ih (i + 1) (lv + 1) (by omega) (by omega)
      have hopn : opensS L ⟨i, 0, 0⟩ (lv + 1) = ⟨i, 0, 0⟩ := opens_lo hlt
      have hfact : XR L (.fact lv) ⟨i, 0, 0⟩ e (mustS L s1 (b1 41)) := hx.map fun n hx => by
        rw [xP, if_neg (by rw [h45]; simp), if_neg hk, if_neg (by rw [hT]; simp), if_neg (by rw [hF]; simp), if_pos hp, hopn, if_neg (by simp)]
        show (xP L n (.row 1 (lv + 1)) ⟨i + 1, 0, 0⟩).map _ = _
        rw [hx]; rfl
      by_cases hle : lv + (j + 1 : Nat) ≤ 24
      · rw [if_pos (by omega)] at hs
        subst hs
        have hm : mustS L ⟨n + 1 + j, 0, 0⟩ (b1 41) = ⟨n + 1 + (j + 1), 0, 0⟩ := by
          unfold mustS
          rw [if_pos (by simp [isP, tC j (by omega), sgTk])]; rfl
        rw [hm] at hfact
        exact ⟨_, _, XR.atom rfl hN (quiet (j + 1) (by omega)) hfact, by rw [if_pos hle]⟩
      · rw [if_neg (by omega)] at hs
        have hm : mustS L s1 (b1 41) = s1 := by
          unfold mustS faultS
          rw [if_neg (by simp [isP, hs.1]), if_neg (by omega)]
        rw [hm] at hfact
        exact ⟨_, _, XR.atom rfl hN (op_none (.inl (by omega))) hfact, by rw [if_neg hle]; exact ⟨hs.1, by omega⟩⟩
    · have hopn : opensS L ⟨i, 0, 0⟩ (lv + 1) = ⟨i, 15, i⟩ := by rw [opens_hi rfl hge]; simp [ho, sgTk]
      have hfact : XR L (.fact lv) ⟨i, 0, 0⟩ .zero ⟨i, 15, i⟩ := ⟨1, fun n hn => by
        obtain ⟨m, rfl⟩ : ∃ m, n = m + 1 := ⟨n - 1, by omega⟩
        rw [xP, if_neg (by rw [h45]; simp), if_neg hk, if_neg (by rw [hT]; simp), if_neg (by rw [hF]; simp), if_pos hp, hopn, if_pos (by simp)]⟩
      exact ⟨_, _, XR.atom rfl hN (op_none (.inl (by simp))) hfact, by rw [if_neg (by omega)]; exact ⟨rfl, by show (i : Int) = _; omega⟩⟩
/-! #### Minus signs -/
def toks1 (n : Nat) : List Tk := gcat (fun i => [sgTk 45 i]) 0 n ++ [numTk n, endTk2 (n + 1)]
theorem gcat_nil {α : Type} : ∀ n i, gcat (fun _ => ([] : List α)) i n = []
  | 0, _ => rfl
  | n + 1, i => by rw [gcat, gcat_nil n (i + 1)]; rfl
theorem lex1 (n : Nat) : Lx (deepT 1 n n).data.toList 0 (toks1 n) := by
  rw [deepT_list, show (closeB 1).data.toList = [] from rfl, gcat_nil]
  have hm := Lx.digit (c := 49) (l := []) (a := n) rfl rfl (Lx.nil (n + 1))
  exact Lx.gcat (f := fun _ => (openB 1).data.toList) (g := fun i => [sgTk 45 i]) (o := fun i => i) (N := n) (fun i _ l toks h => by
    exact Lx.sign (c := 45) rfl (sg45 _) h) n 0 (by omega) (by rw [Nat.zero_add]; exact hm)
theorem par1 {n : Nat} {L : List Tk} (hL : L = toks1 n) : ∀ j i (lv : Int), i + j = n → lv ≤ 24 → ∃ e s', XR L (.fact lv) ⟨i, 0, 0⟩ e s' ∧ if lv + j ≤ 24 then s' = ⟨n + 1, 0, 0⟩ else s'.c = 15 ∧ s'.a = i + (24 - lv) := by
  have tO : ∀ i, i < n → tok L i = sgTk 45 i := fun i hi => by rw [hL]; exact gcat_get (fun i => sgTk 45 i) endTk hi _
  have tN : tok L n = numTk n := by rw [hL]; exact gcat_past (fun i => sgTk 45 i) endTk n 0 _
  intro j
  induction j with
  | zero =>
    intro i lv hi hlv
    obtain rfl : i = n := by omega
    refine ⟨.mk 1 i 1 0 ByteArray.empty [], ⟨i + 1, 0, 0⟩, ⟨1, fun n hn => ?_⟩, ?_⟩
    · obtain ⟨m, rfl⟩ : ∃ m, n = m + 1 := ⟨n - 1, by omega⟩
      rw [xP, if_neg (by simp [isP, tN, numTk]), if_pos (by simp [tN, numTk])]
      simp [tN, numTk, PS.on]
    · rw [if_pos (by simpa using hlv)]
  | succ j ih =>
    intro i lv hi hlv
    have ho := tO i (by omega)
    have hp : isP L ⟨i, 0, 0⟩ (b1 45) = true := by simp [isP, ho, sgTk]
    rcases Int.lt_or_le lv 24 with hlt | hge
    · obtain ⟨e, s1, hx, hs⟩ := ih (i + 1) (lv + 1) (by omega) (by omega)
      have hopn : opensS L ⟨i, 0, 0⟩ (lv + 1) = ⟨i, 0, 0⟩ := opens_lo hlt
      refine ⟨.mk 5 i 0 14 ByteArray.empty [e], s1, hx.map fun n hx => ?_, ?_⟩
      · rw [xP, if_pos hp, hopn, if_neg (by simp)]
        show (xP L n (.fact (lv + 1)) ⟨i + 1, 0, 0⟩).map _ = _
        rw [hx]; simp [ho, sgTk]
      · by_cases hle : lv + (j + 1 : Nat) ≤ 24
        · rw [if_pos (by omega)] at hs
          rw [if_pos hle]; exact hs
        · rw [if_neg (by omega)] at hs
          rw [if_neg hle]; exact ⟨hs.1, by omega⟩
    · have hopn : opensS L ⟨i, 0, 0⟩ (lv + 1) = ⟨i, 15, i⟩ := by rw [opens_hi rfl hge]; simp [ho, sgTk]
      refine ⟨.zero, ⟨i, 15, i⟩, ⟨1, fun n hn => ?_⟩, by rw [if_neg (by omega)]; exact ⟨rfl, by show (i : Int) = _; omega⟩⟩
      obtain ⟨m, rfl⟩ : ∃ m, n = m + 1 := ⟨n - 1, by omega⟩
      rw [xP, if_pos hp, hopn, if_pos (by simp)]
/-! #### Elements -/
def nmTk (a : Nat) : Tk := ⟨1, a, 0, ⟨⟨[97]⟩⟩⟩
def toks2 (n : Nat) : List Tk := gcat (fun i => [nmTk (2 * i), sgTk 91 (2 * i + 1)]) 0 n ++ (numTk (2 * n) :: (gcat (fun i => [sgTk 93 (2 * n + 1 + i)]) 0 n ++ [endTk2 (2 * n + 1 + n)]))
theorem gcat2_get {α : Type} (f g : Nat → α) (d : α) (l : List α) : ∀ n i q, q < n → (gcat (fun i => [f i, g i]) i n ++ l).getD (2 * q) d = f (i + q) ∧ (gcat (fun i => [f i, g i]) i n ++ l).getD (2 * q + 1) d = g (i + q)
  | 0, i, q, h => by omega
  | n + 1, i, 0, h => by simp [gcat]
  | n + 1, i, q + 1, h => by
    have ih := gcat2_get f g d l n (i + 1) q (by omega)
    rw [show 2 * (q + 1) = 2 * q + 1 + 1 by omega, gcat]
    simp only [List.cons_append, List.nil_append, List.getD_cons_succ]
    rw [ih.1, ih.2, show i + 1 + q = i + (q + 1) by omega]
    exact ⟨rfl, rfl⟩
theorem gcat2_past {α : Type} (f g : Nat → α) (d : α) (l : List α) : ∀ n i q, (gcat (fun i => [f i, g i]) i n ++ l).getD (2 * n + q) d = l.getD q d
  | 0, i, q => by simp [gcat]
  | n + 1, i, q => by
    have ih := gcat2_past f g d l n (i + 1) q
    rw [show 2 * (n + 1) + q = 2 * n + q + 1 + 1 by omega, gcat]
    simp only [List.cons_append, List.nil_append, List.getD_cons_succ]
    exact ih
theorem lex2 (n : Nat) : Lx (deepT 2 n n).data.toList 0 (toks2 n) := by
  rw [deepT_list]
  have hc := Lx.gcat (f := fun _ => (closeB 2).data.toList) (g := fun i => [sgTk 93 (2 * n + 1 + i)]) (o := fun i => 2 * n + 1 + i) (N := n) (fun i _ l toks h => Lx.sign (c := 93) rfl (sg93 _) h) n 0 (l := []) (toks := [endTk2 (2 * n + 1 + n)]) (by omega) (by rw [Nat.zero_add]; exact Lx.nil _)
  rw [List.append_nil] at hc
  have hd : (gcat (fun _ => (closeB 2).data.toList) 0 n).takeWhile digitB = [] := by cases n <;> rfl
  have hm := Lx.digit (c := 49) rfl hd hc
  exact Lx.gcat (f := fun _ => (openB 2).data.toList) (g := fun i => [nmTk (2 * i), sgTk 91 (2 * i + 1)]) (o := fun i => 2 * i) (N := n) (fun i _ l toks h => by
    refine Lx.name (c := 97) (w := []) 1 rfl (by simp) (by rfl) (by rw [if_neg (by decide)]; simp) ?_
    exact Lx.sign (c := 91) rfl (sg91 _) h) n 0 (by omega) (by rw [Nat.zero_add]; exact hm)
theorem par2 {n : Nat} {L : List Tk} (hL : L = toks2 n) : ∀ j i (lv : Int), i + j = n → lv ≤ 24 → ∃ e s', XR L (.row 1 lv) ⟨2 * i, 0, 0⟩ e s' ∧ if lv + j ≤ 24 then s' = ⟨2 * n + 1 + j, 0, 0⟩ else s'.c = 15 ∧ s'.a = 2 * (i + (24 - lv)) + 1 := by
  have tA : ∀ i, i < n → tok L (2 * i) = nmTk (2 * i) := fun i hi => by rw [hL]; have := (gcat2_get (fun i => nmTk (2 * i)) (fun i => sgTk 91 (2 * i + 1)) endTk (numTk (2 * n) :: (gcat (fun i => [sgTk 93 (2 * n + 1 + i)]) 0 n ++ [endTk2 (2 * n + 1 + n)])) n 0 i hi).1; rw [Nat.zero_add] at this; exact this
  have tO : ∀ i, i < n → tok L (2 * i + 1) = sgTk 91 (2 * i + 1) := fun i hi => by rw [hL]; have := (gcat2_get (fun i => nmTk (2 * i)) (fun i => sgTk 91 (2 * i + 1)) endTk (numTk (2 * n) :: (gcat (fun i => [sgTk 93 (2 * n + 1 + i)]) 0 n ++ [endTk2 (2 * n + 1 + n)])) n 0 i hi).2; rw [Nat.zero_add] at this; exact this
  have tN : tok L (2 * n) = numTk (2 * n) := by rw [hL]; exact gcat2_past (fun i => nmTk (2 * i)) (fun i => sgTk 91 (2 * i + 1)) endTk _ n 0 0
  have tC : ∀ i, i < n → tok L (2 * n + 1 + i) = sgTk 93 (2 * n + 1 + i) := fun i hi => by
    rw [hL, show 2 * n + 1 + i = 2 * n + (i + 1) by omega]
    refine (gcat2_past (fun i => nmTk (2 * i)) (fun i => sgTk 91 (2 * i + 1)) endTk _ n 0 (i + 1)).trans ?_
    rw [show 2 * n + (i + 1) = 2 * n + 1 + i by omega]
    exact gcat_get (fun i => sgTk 93 (2 * n + 1 + i)) endTk hi _
  have tE : tok L (2 * n + 1 + n) = endTk2 (2 * n + 1 + n) := by
    rw [hL, show 2 * n + 1 + n = 2 * n + (n + 1) by omega]
    refine (gcat2_past (fun i => nmTk (2 * i)) (fun i => sgTk 91 (2 * i + 1)) endTk _ n 0 (n + 1)).trans ?_
    rw [show 2 * n + (n + 1) = 2 * n + 1 + n by omega]
    exact gcat_past (fun i => sgTk 93 (2 * n + 1 + i)) endTk n 0 _
  have quiet : ∀ j, j ≤ n → ∀ k, opP L ⟨2 * n + 1 + j, 0, 0⟩ k = 0 := fun j hj k => by
    refine op_none ?_ k
    rcases Nat.lt_or_ge j n with h | h
    · exact .inr (.inr (by show ∀ x ∈ opsL, x.1 ≠ (tok L (2 * n + 1 + j)).text; rw [tC j h]; show ∀ x ∈ opsL, x.1 ≠ b1 93; decide))
    · obtain rfl : j = n := by omega
      exact .inr (.inl (by show (tok L (2 * j + 1 + j)).kind = 5; rw [tE]; rfl))
  intro j
  induction j with
  | zero =>
    intro i lv hi hlv
    obtain rfl : i = n := by omega
    refine ⟨_, _, XR.atom (e := .mk 1 (2 * i : Nat) 1 0 ByteArray.empty []) (s' := ⟨2 * i + 1, 0, 0⟩) rfl (by simp [isP, tN, numTk]) (fun k => quiet 0 (Nat.zero_le _) k) ⟨1, fun n hn => ?_⟩, ?_⟩
    · obtain ⟨m, rfl⟩ : ∃ m, n = m + 1 := ⟨n - 1, by omega⟩
      rw [xP, if_neg (by simp [isP, tN, numTk]), if_pos (by simp [tN, numTk])]
      simp [tN, numTk, PS.on]
    · rw [if_pos (by simpa using hlv)]
  | succ j ih =>
    intro i lv hi hlv
    have hA := tA i (by omega)
    have ho := tO i (by omega)
    have hb : isP L ⟨2 * i + 1, 0, 0⟩ (b1 91) = true := by simp [isP, ho, sgTk]
    have h45 : isP L ⟨2 * i, 0, 0⟩ (b1 45) = false := by simp [isP, hA, nmTk]
    have hT : isP L ⟨2 * i, 0, 0⟩ tTrue = false := by simp [isP, hA, nmTk]
    have hF : isP L ⟨2 * i, 0, 0⟩ tFalse = false := by simp [isP, hA, nmTk]
    have hP : isP L ⟨2 * i, 0, 0⟩ (b1 40) = false := by simp [isP, hA, nmTk]
    have hN : isP L ⟨2 * i, 0, 0⟩ tNot = false := by simp [isP, hA, nmTk]
    have hk : ¬ (tok L (2 * i)).kind = 2 := by simp [hA, nmTk]
    have hk1 : (tok L (2 * i)).kind = 1 := by simp [hA, nmTk]
    have fct : ∀ {e s1}, XR L (.index lv) ⟨2 * i + 1, 0, 0⟩ e s1 → XR L (.fact lv) ⟨2 * i, 0, 0⟩ (.mk 4 (tok L (2 * i)).at_ 0 0 (tok L (2 * i)).text [e]) s1 := fun {e s1} h => h.map fun m hx => by
      rw [xP, if_neg (by rw [h45]; simp), if_neg hk, if_neg (by rw [hT]; simp), if_neg (by rw [hF]; simp), if_neg (by rw [hP]; simp), if_pos hk1, if_neg (by show ¬ isP L ⟨2 * i + 1, 0, 0⟩ (b1 91) = false; rw [hb]; simp)]
      show (xP L m (.index lv) ⟨2 * i + 1, 0, 0⟩).map _ = _
      rw [hx]; rfl
    rcases Int.lt_or_le lv 24 with hlt | hge
    · obtain ⟨e, s1, hx, hs⟩ := ih (i + 1) (lv + 1) (by omega) (by omega)
      have hopn : opensS L ⟨2 * i + 1, 0, 0⟩ (lv + 1) = ⟨2 * i + 1, 0, 0⟩ := opens_lo hlt
      have hidx : XR L (.index lv) ⟨2 * i + 1, 0, 0⟩ e (mustS L s1 (b1 93)) := hx.map fun m hx => by
        rw [xP, if_neg (by rw [hb]; simp), hopn, if_neg (by simp)]
        show (xP L m (.row 1 (lv + 1)) ⟨2 * i + 1 + 1, 0, 0⟩).map _ = _
        rw [show 2 * i + 1 + 1 = 2 * (i + 1) by omega, hx]; rfl
      by_cases hle : lv + (j + 1 : Nat) ≤ 24
      · rw [if_pos (by omega)] at hs
        subst hs
        have hm : mustS L ⟨2 * n + 1 + j, 0, 0⟩ (b1 93) = ⟨2 * n + 1 + (j + 1), 0, 0⟩ := by
          unfold mustS
          rw [if_pos (by simp [isP, tC j (by omega), sgTk])]; rfl
        rw [hm] at hidx
        exact ⟨_, _, XR.atom rfl hN (quiet (j + 1) (by omega)) (fct hidx), by rw [if_pos hle]⟩
      · rw [if_neg (by omega)] at hs
        have hm : mustS L s1 (b1 93) = s1 := by
          unfold mustS faultS
          rw [if_neg (by simp [isP, hs.1]), if_neg (by omega)]
        rw [hm] at hidx
        exact ⟨_, _, XR.atom rfl hN (op_none (.inl (by omega))) (fct hidx), by rw [if_neg hle]; exact ⟨hs.1, by omega⟩⟩
    · have hopn : opensS L ⟨2 * i + 1, 0, 0⟩ (lv + 1) = ⟨2 * i + 1, 15, (2 * i + 1 : Nat)⟩ := by rw [opens_hi rfl hge]; simp [ho, sgTk]
      have hidx : XR L (.index lv) ⟨2 * i + 1, 0, 0⟩ .zero ⟨2 * i + 1, 15, (2 * i + 1 : Nat)⟩ := ⟨1, fun n hn => by
        obtain ⟨m, rfl⟩ : ∃ m, n = m + 1 := ⟨n - 1, by omega⟩
        rw [xP, if_neg (by rw [hb]; simp), hopn, if_pos (by simp)]
        simp [faultS]⟩
      exact ⟨_, _, XR.atom rfl hN (op_none (.inl (by simp))) (fct hidx), by rw [if_neg (by omega)]; exact ⟨rfl, by show ((2 * i + 1 : Nat) : Int) = _; omega⟩⟩
/-- What ExprDeep's texts are read as: of all three kinds. -/
theorem deep_all {k n : Nat} (hk : k ≤ 2) {lv : Int} (h24 : lv ≤ 24) : ∃ L N e s', lexFrom (deepT k n n).data.toList ((deepT k n n).data.toList.length + 1) 0 [] = some (.inl L) ∧ xP L N (.row 1 lv) ⟨0, 0, 0⟩ = some (e, s') ∧
    if lv + n ≤ 24 then s'.c = 0 else s'.c = 15 ∧ s'.a = if k = 2 then 2 * (24 - lv) + 1 else 24 - lv := by
  rcases (show k = 0 ∨ k = 1 ∨ k = 2 by omega) with rfl | rfl | rfl
  · obtain ⟨e, s', ⟨N, hx⟩, hs⟩ := par0 (L := toks0 n) rfl n 0 lv (by omega) h24
    refine ⟨_, N, e, s', (lex0 n).all, hx N (Nat.le_refl N), ?_⟩
    by_cases h : lv + n ≤ 24
    · rw [if_pos h] at hs ⊢; rw [hs]
    · rw [if_neg h] at hs ⊢; exact ⟨hs.1, by rw [if_neg (by omega), hs.2]; omega⟩
  · obtain ⟨e, s', hx, hs⟩ := par1 (L := toks1 n) rfl n 0 lv (by omega) h24
    have tE : tok (toks1 n) (n + 1) = endTk2 (n + 1) := gcat_past (fun i => sgTk 45 i) endTk n 1 _
    have hN : isP (toks1 n) ⟨0, 0, 0⟩ tNot = false := by
      cases n with
      | zero => simp [isP, tok, toks1, gcat, numTk]
      | succ n => simp [isP, tok, toks1, gcat, sgTk, b1, tNot]
    obtain ⟨N, hx⟩ := XR.atom rfl hN (fun k => by
      by_cases h : lv + n ≤ 24
      · rw [if_pos h] at hs; rw [hs]; exact op_none (.inr (.inl (by show (tok (toks1 n) (n + 1)).kind = 5; rw [tE]; rfl))) k
      · rw [if_neg h] at hs; exact op_none (.inl (by omega)) k) hx
    refine ⟨_, N, e, s', (lex1 n).all, hx N (Nat.le_refl N), ?_⟩
    by_cases h : lv + n ≤ 24
    · rw [if_pos h] at hs ⊢; rw [hs]
    · rw [if_neg h] at hs ⊢; exact ⟨hs.1, by rw [if_neg (by omega), hs.2]; omega⟩
  · obtain ⟨e, s', ⟨N, hx⟩, hs⟩ := par2 (L := toks2 n) rfl n 0 lv (by omega) h24
    refine ⟨_, N, e, s', (lex2 n).all, hx N (Nat.le_refl N), ?_⟩
    by_cases h : lv + n ≤ 24
    · rw [if_pos h] at hs ⊢; rw [hs]
    · rw [if_neg h] at hs ⊢; exact ⟨hs.1, by rw [if_pos rfl, hs.2]; omega⟩
end Go.Vm.Ex
