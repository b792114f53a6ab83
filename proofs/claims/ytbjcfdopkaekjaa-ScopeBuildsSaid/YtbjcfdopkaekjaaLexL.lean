/- What is defined and proved: the reader of bytes, by what is left of the text. -/
import Derived.Test.YtbjcfdopkaekjaaLex2
namespace Go.Vm.Parse
open Go Go.Proofs
set_option maxRecDepth 100000
set_option maxHeartbeats 1000000
set_option linter.unusedSimpArgs false
set_option linter.unusedVariables false
/-! ### Bytes -/
theorem lexStep_to {src : List UInt8} {a : Nat} (h : a < src.length) {c : UInt8} {to : Nat} {t : Option Tk} (e : lexStep src a c = .more to t) : a < to ∧ to ≤ src.length := by
  have sp : ∀ p, a + 1 ≤ spanTo p src (a + 1) ∧ spanTo p src (a + 1) ≤ src.length := fun p => spanTo_le (by omega)
  unfold lexStep at e
  split at e
  · cases e; omega
  split at e
  · split at e
    · cases e
    · rename_i h2; cases e; have := sp (fun b => !decide (b.toNat = 125)); omega
  split at e
  · cases e; omega
  split at e
  · have := sp nameB
    split at e
    · cases e; omega
    split at e
    · cases e
    · cases e; omega
  split at e
  · have := sp digitB
    split at e
    · cases e
    · cases e; omega
  split at e
  · cases e
  · rename_i h2
    cases e
    have h3 := signP_le (src.drop a)
    rw [List.length_drop] at h3
    omega
theorem lex_ans (src : List UInt8) : ∀ n a out, a ≤ src.length → src.length < a + n → ∃ r, lexFrom src n a out = some r
  | 0, a, out, h1, h2 => by omega
  | n + 1, a, out, h1, h2 => by
    rw [lexFrom]
    split
    · rename_i h
      cases e : lexStep src a src[a] with
      | bad c p => exact ⟨_, rfl⟩
      | more to t =>
        have := lexStep_to h e
        cases t with
        | none => exact lex_ans src n to out (by omega) (by omega)
        | some t => exact lex_ans src n to (out ++ [t]) (by omega) (by omega)
    · exact ⟨_, rfl⟩
theorem lexFrom_len {src : List UInt8} : ∀ {n a : Nat} {out l : List Tk}, lexFrom src n a out = some (.inl l) → l.length ≤ out.length + n
  | 0, _, _, _, h => by cases h
  | n + 1, a, out, l, h => by
    rw [lexFrom] at h
    split at h
    · split at h
      · cases h
      · have := lexFrom_len h; omega
      · have := lexFrom_len h; simp at this; omega
    · cases h; simp
theorem lexFrom_pos {src : List UInt8} : ∀ {n a : Nat} {out l : List Tk}, lexFrom src n a out = some (.inl l) → 1 ≤ l.length
  | 0, _, _, _, h => by cases h
  | n + 1, a, out, l, h => by
    rw [lexFrom] at h
    split at h
    · split at h
      · cases h
      · exact lexFrom_pos h
      · exact lexFrom_pos h
    · cases h; simp
theorem lexFrom_bad {src : List UInt8} : ∀ {n a : Nat} {out : List Tk} {c p : Int}, lexFrom src n a out = some (.inr (c, p)) → c ≠ 0
  | 0, _, _, _, _, h => by cases h
  | n + 1, a, out, c, p, h => by
    rw [lexFrom] at h
    split at h
    · split at h
      · rename_i e
        cases h
        unfold lexStep at e
        split at e
        · cases e
        · split at e
          · split at e
            · cases e; omega
            · cases e
          · split at e
            · cases e
            · split at e
              · split at e
                · cases e
                · split at e
                  · cases e; omega
                  · cases e
              · split at e
                · split at e
                  · cases e; omega
                  · cases e
                · split at e
                  · cases e; omega
                  · cases e
      · exact lexFrom_bad h
      · exact lexFrom_bad h
    · cases h
inductive LT where
  | more (k : Nat) (t : Option Tk)
  | bad (c a : Int)
def stepL (c : UInt8) (l : List UInt8) (a : Nat) : LT :=
  if c.toNat = 32 ∨ c.toNat = 9 ∨ c.toNat = 10 ∨ c.toNat = 13 then .more 1 none
  else if c.toNat = 123 then
    if (l.takeWhile fun b => !decide (b.toNat = 125)).length = l.length then .bad 11 a else .more ((l.takeWhile fun b => !decide (b.toNat = 125)).length + 2) none
  else if c.toNat = 80 ∨ c.toNat = 86 then .more 1 (some ⟨3, a, 0, ⟨⟨[c]⟩⟩⟩)
  else if letterB c = true then
    if isWord ⟨⟨c :: l.takeWhile nameB⟩⟩ = true then .more ((l.takeWhile nameB).length + 1) (some ⟨3, a, 0, ⟨⟨c :: l.takeWhile nameB⟩⟩⟩)
    else if 12 < (l.takeWhile nameB).length + 1 then .bad 12 a
    else .more ((l.takeWhile nameB).length + 1) (some ⟨1, a, 0, ⟨⟨c :: l.takeWhile nameB⟩⟩⟩)
  else if digitB c = true then
    match numFrom (c :: l.takeWhile digitB) 0 with
    | none => .bad 13 a
    | some n => .more ((l.takeWhile digitB).length + 1) (some ⟨2, a, n, ByteArray.empty⟩)
  else if signP (c :: l) = 0 then .bad 11 a
  else .more (signP (c :: l)) (some ⟨4, a, 0, ⟨⟨(c :: l).take (signP (c :: l))⟩⟩⟩)
def LT.at_ (a : Nat) : LT → LS
  | .more k t => .more (a + k) t
  | .bad c p => .bad c p
theorem take_while (p : UInt8 → Bool) (l : List UInt8) : l.take (l.takeWhile p).length = l.takeWhile p := (List.prefix_iff_eq_take.1 (List.takeWhile_prefix p)).symm
theorem lexStep_L {src : List UInt8} {a : Nat} {c : UInt8} {l : List UInt8} (h : src.drop a = c :: l) : lexStep src a c = (stepL c l a).at_ a := by
  have h1 : src.drop (a + 1) = l := by rw [← List.drop_drop, h]; rfl
  have hlen : src.length = a + 1 + l.length := by
    have := congrArg List.length h
    simp at this
    omega
  have hs : ∀ p, spanTo p src (a + 1) = a + ((l.takeWhile p).length + 1) := fun p => by unfold spanTo; rw [h1]; omega
  have hc : ∀ p, cutB src a (a + ((l.takeWhile p).length + 1)) = ⟨⟨c :: l.takeWhile p⟩⟩ := fun p => by
    unfold cutB
    rw [h, show a + ((l.takeWhile p).length + 1) - a = (l.takeWhile p).length + 1 by omega, List.take_succ_cons, take_while]
  have hc1 : cutB src a (a + 1) = ⟨⟨[c]⟩⟩ := by
    unfold cutB
    rw [h, show a + 1 - a = 1 by omega]; rfl
  have hc2 : ∀ k, cutB src a (a + k) = ⟨⟨(c :: l).take k⟩⟩ := fun k => by
    unfold cutB
    rw [h, show a + k - a = k by omega]
  unfold lexStep stepL
  by_cases c1 : c.toNat = 32 ∨ c.toNat = 9 ∨ c.toNat = 10 ∨ c.toNat = 13
  · rw [if_pos c1, if_pos c1]; rfl
  rw [if_neg c1, if_neg c1]
  by_cases c2 : c.toNat = 123
  · rw [if_pos c2, if_pos c2, hs]
    by_cases c3 : (l.takeWhile fun b => !decide (b.toNat = 125)).length = l.length
    · rw [if_pos (by omega), if_pos c3]; rfl
    · rw [if_neg (by omega), if_neg c3]; rfl
  rw [if_neg c2, if_neg c2]
  by_cases c3 : c.toNat = 80 ∨ c.toNat = 86
  · rw [if_pos c3, if_pos c3, hc1]; rfl
  rw [if_neg c3, if_neg c3]
  by_cases c4 : letterB c = true
  · rw [if_pos c4, if_pos c4, hs, hc]
    by_cases c5 : isWord ⟨⟨c :: l.takeWhile nameB⟩⟩ = true
    · rw [if_pos c5, if_pos c5]; rfl
    rw [if_neg c5, if_neg c5]
    by_cases c6 : 12 < (l.takeWhile nameB).length + 1
    · rw [if_pos (by omega), if_pos c6]; rfl
    · rw [if_neg (by omega), if_neg c6]; rfl
  rw [if_neg c4, if_neg c4]
  by_cases c5 : digitB c = true
  · rw [if_pos c5, if_pos c5, hs, h, show a + ((l.takeWhile digitB).length + 1) - a = (l.takeWhile digitB).length + 1 by omega, List.take_succ_cons, take_while]
    cases numFrom (c :: l.takeWhile digitB) 0 <;> rfl
  rw [if_neg c5, if_neg c5, h]
  by_cases c6 : signP (c :: l) = 0
  · rw [if_pos c6, if_pos c6]; rfl
  · rw [if_neg c6, if_neg c6, hc2]; rfl

/-- What is left of a text gives these tokens. -/
def Lx (l : List UInt8) (a : Nat) (toks : List Tk) : Prop := ∀ src out n, src.drop a = l → a ≤ src.length → src.length < a + n → lexFrom src n a out = some (.inl (out ++ toks))
theorem Lx.nil (a : Nat) : Lx [] a [⟨5, a, 0, ByteArray.empty⟩] := by
  intro src out n h1 h2 h3
  have := congrArg List.length h1
  simp at this
  obtain ⟨m, rfl⟩ : ∃ m, n = m + 1 := ⟨n - 1, by omega⟩
  rw [lexFrom, dif_neg (by omega), show src.length = a by omega]
theorem Lx.step {c : UInt8} {l : List UInt8} {a k : Nat} {t : Option Tk} {toks : List Tk} (e : stepL c l a = .more k t) (h : Lx ((c :: l).drop k) (a + k) toks) : Lx (c :: l) a (t.toList ++ toks) := by
  intro src out n h1 h2 h3
  obtain ⟨m, rfl⟩ : ∃ m, n = m + 1 := ⟨n - 1, by have := congrArg List.length h1; simp at this; omega⟩
  have hlt : a < src.length := by have := congrArg List.length h1; simp at this; omega
  have hc : src[a] = c := by
    have e2 := List.drop_eq_getElem_cons hlt
    rw [h1] at e2
    injection e2 with e3; exact e3.symm
  have es := lexStep_L h1
  rw [e] at es
  have hb := lexStep_to hlt es
  have hd : src.drop (a + k) = (c :: l).drop k := by rw [← h1, List.drop_drop]
  rw [lexFrom, dif_pos hlt, hc, es]
  cases t with
  | none => exact h src out m hd hb.2 (by omega)
  | some t =>
    have := h src (out ++ [t]) m hd hb.2 (by omega)
    rw [List.append_assoc] at this
    exact this
theorem Lx.all {src : List UInt8} {toks : List Tk} (h : Lx src 0 toks) : lexFrom src (src.length + 1) 0 [] = some (.inl toks) := h src [] _ rfl (Nat.zero_le _) (by omega)
theorem Lx.blank {l : List UInt8} {a : Nat} {toks : List Tk} (h : Lx l (a + 1) toks) : Lx (32 :: l) a toks := Lx.step (t := none) (k := 1) rfl h
theorem Lx.sign {c : UInt8} {l : List UInt8} {a : Nat} {toks : List Tk} (hc : oneS c = true) (hs : signP (c :: l) = 1) (h : Lx l (a + 1) toks) : Lx (c :: l) a (⟨4, a, 0, b1 c⟩ :: toks) := by
  refine Lx.step (t := some ⟨4, a, 0, b1 c⟩) (k := 1) ?_ h
  unfold stepL
  have hm : c ∈ oneL := by
    unfold oneS at hc
    simpa using hc
  rw [hs]
  simp only [oneL, List.mem_cons, List.not_mem_nil, or_false] at hm
  rcases hm with rfl | rfl | rfl | rfl | rfl | rfl | rfl | rfl | rfl | rfl | rfl | rfl | rfl | rfl | rfl <;> rfl
theorem Lx.digit {c : UInt8} {l : List UInt8} {a : Nat} {toks : List Tk} (hc : digitB c = true) (hs : l.takeWhile digitB = []) (h : Lx l (a + 1) toks) : Lx (c :: l) a (⟨2, a, (c.toNat : Int) - 48, ByteArray.empty⟩ :: toks) := by
  refine Lx.step (t := some ⟨2, a, (c.toNat : Int) - 48, ByteArray.empty⟩) (k := 1) ?_ h
  have hd : 48 ≤ c.toNat ∧ c.toNat ≤ 57 := by unfold digitB at hc; simpa using hc
  have hl : letterB c = false := by unfold letterB; simp; omega
  unfold stepL
  rw [if_neg (by omega), if_neg (by omega), if_neg (by omega), if_neg (by rw [hl]; simp), if_pos hc, hs]
  simp only [numFrom]
  rw [if_neg (by omega)]
  simp
theorem takeWhile_app {p : UInt8 → Bool} : ∀ {w l : List UInt8}, (∀ x ∈ w, p x = true) → l.takeWhile p = [] → (w ++ l).takeWhile p = w
  | [], l, _, h => h
  | x :: w, l, hw, h => by
    rw [List.cons_append, List.takeWhile_cons, if_pos (hw x (by simp)), takeWhile_app (fun y hy => hw y (by simp [hy])) h]
theorem Lx.name {c : UInt8} {w l : List UInt8} {a : Nat} {toks : List Tk} (k : Int) (hc : letterB c = true) (hw : ∀ x ∈ w, nameB x = true) (hl : l.takeWhile nameB = []) (hk : if isWord ⟨⟨c :: w⟩⟩ = true then k = 3 else (w.length < 12 ∧ k = 1))
    (h : Lx l (a + (w.length + 1)) toks) : Lx (c :: (w ++ l)) a (⟨k, a, 0, ⟨⟨c :: w⟩⟩⟩ :: toks) := by
  refine Lx.step (t := some ⟨k, a, 0, ⟨⟨c :: w⟩⟩⟩) (k := w.length + 1) ?_ (by rw [List.drop_succ_cons, List.drop_left]; exact h)
  have hd : 97 ≤ c.toNat ∧ c.toNat ≤ 122 := by unfold letterB at hc; simpa using hc
  unfold stepL
  rw [if_neg (by omega), if_neg (by omega), if_neg (by omega), if_pos hc, takeWhile_app hw hl]
  split at hk
  · rename_i hi; subst hk; rw [if_pos hi]
  · rename_i hi; obtain ⟨h1, rfl⟩ := hk; rw [if_neg hi, if_neg (by omega)]

/-! ### One behind the other -/
def gcat {α : Type} (f : Nat → List α) (i : Nat) : Nat → List α
  | 0 => []
  | j + 1 => f i ++ gcat f (i + 1) j
theorem gcat_snoc {α : Type} (f : Nat → List α) : ∀ (j i : Nat), gcat f i (j + 1) = gcat f i j ++ f (i + j)
  | 0, i => by simp [gcat]
  | j + 1, i => by
    have ih := gcat_snoc f j (i + 1)
    rw [gcat, ih, show i + 1 + j = i + (j + 1) by omega]
    simp [gcat]
theorem Lx.gcat {f : Nat → List UInt8} {g : Nat → List Tk} {o : Nat → Nat} {N : Nat} (one : ∀ i, i < N → ∀ {l toks}, Lx l (o (i + 1)) toks → Lx (f i ++ l) (o i) (g i ++ toks)) : ∀ (j i : Nat) {l : List UInt8} {toks : List Tk}, i + j ≤ N → Lx l (o (i + j)) toks →
    Lx (Parse.gcat f i j ++ l) (o i) (Parse.gcat g i j ++ toks)
  | 0, i, l, toks, _, h => h
  | j + 1, i, l, toks, hN, h => by
    simp only [Parse.gcat, List.append_assoc]
    exact one i (by omega) (Lx.gcat one j (i + 1) (by omega) (by rw [show i + 1 + j = i + (j + 1) by omega]; exact h))
theorem tok_drop {L l : List Tk} {p : Nat} (h : L.drop p = l) (q : Nat) : tok L (p + q) = l.getD q endTk := by
  subst h
  unfold tok
  simp [List.getD_eq_getElem?_getD]
end Go.Vm.Parse
