/- What is defined and proved: how much there is in what is read, and that it is no more than the tokens that were read; how a source is made that was read without a fault. -/
import Derived.Test.YtbjcfdopkaekjaaWf
import Derived.Test.YtbjcfdopkaekjaaLexL
namespace Go.Vm.Parse
open Go Go.Proofs
set_option linter.unusedSimpArgs false
set_option linter.unusedVariables false
mutual
def szX : Ex → Nat
  | .mk _ _ _ _ _ sub => 1 + szXs sub
def szXs : List Ex → Nat
  | [] => 0
  | e :: es => szX e + szXs es
end
def szB (b : Bra) : Nat := 1 + szXs b.args + b.claims.length
def szBs : List Bra → Nat
  | [] => 0
  | b :: l => szB b + szBs l
mutual
def szS : Stm → Nat
  | .mk _ _ _ e body els br items => 1 + szXs e + szSs body + szSs els + szBs br + items.length
def szSs : List Stm → Nat
  | [] => 0
  | s :: l => szS s + szSs l
end
theorem szXs_snoc (e : Ex) : ∀ l : List Ex, szXs (l ++ [e]) = szXs l + szX e
  | [] => by simp [szXs]
  | a :: l => by simp only [List.cons_append, szXs, szXs_snoc e l]; omega
theorem szBs_snoc (e : Bra) : ∀ l : List Bra, szBs (l ++ [e]) = szBs l + szB e
  | [] => by simp [szBs]
  | a :: l => by simp only [List.cons_append, szBs, szBs_snoc e l]; omega
theorem szSs_snoc (e : Stm) : ∀ l : List Stm, szSs (l ++ [e]) = szSs l + szS e
  | [] => by simp [szSs]
  | a :: l => by simp only [List.cons_append, szSs, szSs_snoc e l]; omega
theorem szX_pos (e : Ex) : 1 ≤ szX e := by cases e; simp only [szX]; omega
theorem szS_pos (e : Stm) : 1 ≤ szS e := by cases e; simp only [szS]; omega
theorem szXs_len : ∀ l : List Ex, l.length ≤ szXs l
  | [] => Nat.le_refl _
  | a :: l => by have := szXs_len l; have := szX_pos a; simp only [List.length_cons, szXs]; omega
theorem szSs_len : ∀ l : List Stm, l.length ≤ szSs l
  | [] => Nat.le_refl _
  | a :: l => by have := szSs_len l; have := szS_pos a; simp only [List.length_cons, szSs]; omega
/-- Reading went on by so many tokens at least, if there is no fault. -/
structure Ate (L : List Tk) (s s' : PS) (k : Nat) : Prop where
  place : s'.p ≤ max s.p L.length
  code : s'.c = 0 → s.c = 0
  size : s'.c = 0 → k + s.p ≤ s'.p
variable {L : List Tk}
theorem Ate.refl (s : PS) : Ate L s s 0 := ⟨by omega, fun h => h, fun _ => by omega⟩
theorem Ate.trans {a b c : PS} {j k : Nat} (h : Ate L a b j) (h' : Ate L b c k) : Ate L a c (j + k) :=
  ⟨by have := h.place; have := h'.place; omega, fun e => h.code (h'.code e), fun e => by have := h'.size e; have := h.size (h'.code e); omega⟩
theorem Ate.weak {s s' : PS} {j k : Nat} (h : Ate L s s' k) (hj : j ≤ k) : Ate L s s' j := ⟨h.place, h.code, fun e => by have := h.size e; omega⟩
theorem Ate.bad {s s' : PS} (k : Nat) (h : s'.c ≠ 0) (hp : s'.p ≤ max s.p L.length) : Ate L s s' k := ⟨hp, fun e => absurd e h, fun e => absurd e h⟩
theorem ate_on {s : PS} (h : s.p < L.length) : Ate L s s.on 1 := ⟨by show s.p + 1 ≤ _; omega, fun e => e, fun _ => by show 1 + s.p ≤ s.p + 1; omega⟩
theorem ate_fault (s : PS) {c : Int} (hc : c ≠ 0) (k : Nat) : Ate L s (faultS L s c) k := Ate.bad k (faultS_le L s hc).2 (by unfold faultS; split <;> (first | omega | (dsimp only; omega)))
theorem ate_must (s : PS) (x : ByteArray) : Ate L s (mustS L s x) 1 := by
  unfold mustS
  split
  · rename_i h; exact ate_on (isP_lt h)
  · exact ate_fault s (by omega) 1
theorem ate_take (s : PS) (x : ByteArray) : Ate L s (takeS L s x) 0 := by
  unfold takeS
  split
  · rename_i h; exact (ate_on (isP_lt h)).weak (by omega)
  · exact Ate.refl s
theorem ate_opens (s : PS) (lv : Int) : Ate L s (opensS L s lv) 0 := by
  unfold opensS
  split
  · exact ate_fault s (by omega) 0
  · exact Ate.refl s
theorem ate_name (s : PS) : Ate L s (nameS L s) 1 := by
  unfold nameS
  split
  · rename_i h; exact ate_on (tok_ge_kind (by omega))
  · exact ate_fault s (by omega) 1
theorem ate_num (s : PS) : Ate L s (numS L s) 1 := by
  unfold numS
  split
  · rename_i h; exact ate_on (tok_ge_kind (by omega))
  · exact ate_fault s (by omega) 1
theorem opens_place (s : PS) (lv : Int) : (opensS L s lv).p = s.p := by
  unfold opensS
  split
  · unfold faultS; split <;> rfl
  · rfl
def XC.sz : XC → Nat
  | .loop _ _ x => szX x
  | _ => 0
theorem x_ate : ∀ n cmd s e s', xP L n cmd s = some (e, s') → s'.p ≤ max s.p L.length ∧ (s'.c = 0 → szX e + s.p ≤ cmd.sz + s'.p) := by
  intro n
  induction n with
  | zero => intro cmd s e s' h; cases h
  | succ n ih =>
    intro cmd s e s' h
    have l0 : ∀ {a b c d y}, szX (.mk a b c d y []) = 1 := by simp [szX, szXs]
    have l1 : ∀ {a b c d y} {x : Ex}, szX (.mk a b c d y [x]) = 1 + szX x := by intros; simp [szX, szXs]
    have l2 : ∀ {a b c d y} {x x2 : Ex}, szX (.mk a b c d y [x, x2]) = 1 + szX x + szX x2 := by intros; simp [szX, szXs]; omega
    have on : ∀ {x : PS}, x.on.p = x.p + 1 := fun {x} => rfl
    have tp : (tok L s.p).kind ≠ 5 → s.p < L.length := tok_ge_kind
    cases cmd with
    | row k lv =>
      simp only [XC.sz]
      rw [xP] at h
      split at h
      · rename_i hc; cases h; exact ⟨by omega, fun h => absurd h hc⟩
      · split at h
        · exact ih _ _ _ _ h
        · split at h
          · split at h
            · exact ih _ _ _ _ h
            · rename_i hb
              have hs := isP_lt (L := L) (s := s) (x := tNot) (by simpa using hb)
              split at h
              · rename_i ho; cases h; exact ⟨by rw [opens_place]; omega, fun h => absurd h ho⟩
              · simp only [Option.map_eq_some_iff] at h
                obtain ⟨⟨e1, s1⟩, h1, h2⟩ := h
                cases h2
                have := ih _ _ _ _ h1
                simp only [XC.sz, on, opens_place, l1] at this ⊢
                exact ⟨by omega, fun h => by have := this.2 h; omega⟩
          · simp only [Option.bind_eq_some_iff] at h
            obtain ⟨⟨e1, s1⟩, h1, h2⟩ := h
            have a := ih _ _ _ _ h1
            have b := ih _ _ _ _ h2
            have c := (x_le L _ _ _ _ _ h2).1.code
            simp only [XC.sz] at a b
            exact ⟨by omega, fun h => by have := b.2 h; have := a.2 (c h); omega⟩
    | loop k lv x =>
      simp only [XC.sz]
      rw [xP] at h
      split at h
      · cases h; exact ⟨by omega, fun _ => Nat.le_refl _⟩
      · rename_i hop
        have hs : s.p < L.length := tp (fun h5 => hop (by unfold opP; rw [if_neg (by omega)]))
        simp only [Option.bind_eq_some_iff] at h
        obtain ⟨⟨e1, s1⟩, h1, h2⟩ := h
        have a := ih _ _ _ _ h1
        simp only [XC.sz, on] at a
        split at h2
        · cases h2; simp only [l2]; exact ⟨by omega, fun h => by have := a.2 h; omega⟩
        · have b := ih _ _ _ _ h2
          have c := (x_le L _ _ _ _ _ h2).1.code
          simp only [XC.sz, l2] at b
          exact ⟨by omega, fun h => by have := b.2 h; have := a.2 (c h); omega⟩
    | fact lv =>
      simp only [XC.sz]
      rw [xP] at h
      split at h
      · rename_i hb
        have hs := isP_lt hb
        split at h
        · rename_i ho; cases h; exact ⟨by rw [opens_place]; omega, fun h => absurd h ho⟩
        · simp only [Option.map_eq_some_iff] at h
          obtain ⟨⟨e1, s1⟩, h1, h2⟩ := h
          cases h2
          have := ih _ _ _ _ h1
          simp only [XC.sz, on, opens_place, l1] at this ⊢
          exact ⟨by omega, fun h => by have := this.2 h; omega⟩
      · split at h
        · rename_i hk
          have hs := tp (by omega)
          cases h; simp only [l0, on]; exact ⟨by omega, fun _ => by omega⟩
        · split at h
          · rename_i hb
            have hs := isP_lt hb
            cases h; simp only [l0, on]; exact ⟨by omega, fun _ => by omega⟩
          · split at h
            · rename_i hb
              have hs := isP_lt hb
              cases h; simp only [l0, on]; exact ⟨by omega, fun _ => by omega⟩
            · split at h
              · rename_i hb
                have hs := isP_lt hb
                split at h
                · rename_i ho; cases h; exact ⟨by rw [opens_place]; omega, fun h => absurd h ho⟩
                · simp only [Option.map_eq_some_iff] at h
                  obtain ⟨⟨e1, s1⟩, h1, h2⟩ := h
                  cases h2
                  have a := ih _ _ _ _ h1
                  have b := ate_must (L := L) s1 (b1 41)
                  have b1 := b.place
                  simp only [XC.sz, on, opens_place] at a ⊢
                  exact ⟨by omega, fun h => by have := a.2 (b.code h); have := b.size h; omega⟩
              · split at h
                · rename_i hk
                  have hs := tp (by omega)
                  split at h
                  · cases h; simp only [l0, on]; exact ⟨by omega, fun _ => by omega⟩
                  · simp only [Option.map_eq_some_iff] at h
                    obtain ⟨⟨e1, s1⟩, h1, h2⟩ := h
                    cases h2
                    have a := ih _ _ _ _ h1
                    simp only [XC.sz, on, l1] at a ⊢
                    exact ⟨by omega, fun h => by have := a.2 h; omega⟩
                · cases h
                  have b := ate_fault (L := L) s (c := 14) (by omega) (szX .zero)
                  exact ⟨b.place, fun h => by have := b.size h; omega⟩
    | index lv =>
      simp only [XC.sz]
      rw [xP] at h
      split at h
      · cases h
        have b := ate_fault (L := L) s (c := 14) (by omega) (szX .zero)
        exact ⟨b.place, fun h => by have := b.size h; omega⟩
      · rename_i hb
        have hs := isP_lt (L := L) (s := s) (x := b1 91) (by simpa using hb)
        split at h
        · cases h
          have b := ate_fault (L := L) (opensS L s (lv + 1)) (c := 14) (by omega) (szX .zero)
          have b1 := b.place
          rw [opens_place] at b1
          exact ⟨b1, fun h => absurd h (faultS_le L _ (by omega)).2⟩
        · simp only [Option.map_eq_some_iff] at h
          obtain ⟨⟨e1, s1⟩, h1, h2⟩ := h
          cases h2
          have a := ih _ _ _ _ h1
          have b := ate_must (L := L) s1 (b1 93)
          have b1 := b.place
          simp only [XC.sz, on, opens_place] at a ⊢
          exact ⟨by omega, fun h => by have := a.2 (b.code h); have := b.size h; omega⟩
theorem ate_x {n : Nat} {cmd : XC} {s s' : PS} {e : Ex} (h : xP L n cmd s = some (e, s')) (hc : cmd.sz = 0 := by rfl) : Ate L s s' (szX e) :=
  ⟨(x_ate _ _ _ _ _ h).1, (x_le L _ _ _ _ _ h).1.code, fun h0 => by have := (x_ate _ _ _ _ _ h).2 h0; omega⟩
/-- A list that was begun goes on. -/
structure Ate2 (L : List Tk) (s s' : PS) (j k : Nat) : Prop where
  place : s'.p ≤ max s.p L.length
  code : s'.c = 0 → s.c = 0
  size : s'.c = 0 → k + s.p ≤ j + s'.p
theorem Ate2.refl (s : PS) (k : Nat) : Ate2 L s s k k := ⟨by omega, fun h => h, fun _ => by omega⟩
theorem Ate.then2 {a b c : PS} {i j k : Nat} (h : Ate L a b i) (h' : Ate2 L b c (j + i) k) : Ate2 L a c j k :=
  ⟨by have := h.place; have := h'.place; omega, fun e => h.code (h'.code e), fun e => by have := h'.size e; have := h.size (h'.code e); omega⟩
theorem Ate2.one {a b : PS} {k : Nat} (h : Ate2 L a b 0 k) : Ate L a b k := ⟨h.place, h.code, fun e => by have := h.size e; omega⟩
theorem ate_items : ∀ {n : Nat} {acc : List Itm} {again : Bool} {s s' : PS} {l : List Itm}, itemsL L n acc again s = some (l, s') → Ate2 L s s' acc.length l.length
  | 0, _, _, _, _, _, h => by cases h
  | n + 1, acc, again, s, s', l, h => by
    rw [itemsL] at h
    split at h
    · have a := ate_items h
      simp only [List.length_append, List.length_cons, List.length_nil] at a
      exact ((((ate_name s).trans (ate_num _)).trans (ate_take _ _)).weak (by omega)).then2 a
    · cases h; exact Ate2.refl _ _
theorem ate_args {lv : Int} : ∀ {n : Nat} {acc : List Ex} {again : Bool} {s s' : PS} {l : List Ex}, argsL L lv n acc again s = some (l, s') → Ate2 L s s' (szXs acc) (szXs l)
  | 0, _, _, _, _, _, h => by cases h
  | n + 1, acc, again, s, s', l, h => by
    rw [argsL] at h
    split at h
    · simp only [Option.bind_eq_some_iff] at h
      obtain ⟨⟨x, s1⟩, h1, h2⟩ := h
      have a := ate_args h2
      rw [szXs_snoc] at a
      exact (((ate_x h1).trans (ate_take _ _)).weak (by dsimp only; omega)).then2 a
    · cases h; exact Ate2.refl _ _
theorem isP_must {s : PS} {x : ByteArray} (h : isP L s x = true) : Ate L s s.on 1 := ate_on (isP_lt h)
theorem ate_argsP {n : Nat} {lv : Int} {s s' : PS} {l : List Ex} (h : argsP L n lv s = some (l, s')) : Ate L s s' (szXs l) := by
  unfold argsP at h
  split at h
  · rename_i hb
    cases h
    exact ((ate_must s (b1 40)).trans (isP_must hb)).weak (by simp [szXs])
  · simp only [Option.map_eq_some_iff] at h
    obtain ⟨⟨x, s1⟩, h1, h2⟩ := h
    cases h2
    have a := (ate_args h1).one
    exact (((ate_must s (b1 40)).trans a).trans (ate_must _ _)).weak (by dsimp only; omega)
theorem ate_branP {n : Nat} {lv : Int} {s s' : PS} {b : Bra} (h : branP L n lv s = some (b, s')) : Ate L s s' (szB b) := by
  unfold branP at h
  simp only [Option.bind_eq_some_iff] at h
  obtain ⟨⟨a, s1⟩, h1, h2⟩ := h
  split at h2
  · rename_i hb
    simp only [Option.map_eq_some_iff] at h2
    obtain ⟨⟨x, s2⟩, h3, h4⟩ := h2
    cases h4
    exact ((((ate_name s).trans (ate_argsP h1)).trans (isP_must hb)).trans (ate_items h3).one).weak (by simp only [szB]; omega)
  · cases h2
    exact ((ate_name s).trans (ate_argsP h1)).weak (by simp only [szB, List.length_nil]; omega)
theorem ate_branL {lv : Int} : ∀ {n : Nat} {acc : List Bra} {again : Bool} {s s' : PS} {l : List Bra}, branL branP L lv n acc again s = some (l, s') → Ate2 L s s' (szBs acc) (szBs l)
  | 0, _, _, _, _, _, h => by cases h
  | n + 1, acc, again, s, s', l, h => by
    rw [branL] at h
    split at h
    · simp only [Option.bind_eq_some_iff] at h
      obtain ⟨⟨x, s1⟩, h1, h2⟩ := h
      have a := ate_branL h2
      rw [szBs_snoc] at a
      exact (((ate_branP h1).trans (ate_take _ _)).weak (by dsimp only; omega)).then2 a
    · cases h; exact Ate2.refl _ _
theorem ate_named {n : Nat} {lv : Int} {s s' : PS} {x : Stm} (h : namedP L n lv s = some (x, s')) : Ate L s s' (szS x) := by
  unfold namedP at h
  split at h
  · simp only [Option.map_eq_some_iff] at h
    obtain ⟨⟨x, s1⟩, h1, h2⟩ := h
    cases h2
    exact ((ate_name s).trans (ate_argsP h1)).weak (by simp [szS, szSs, szBs])
  · split at h
    · simp only [Option.bind_eq_some_iff, Option.map_eq_some_iff] at h
      obtain ⟨⟨i, s1⟩, h1, ⟨x, s2⟩, h2, h3⟩ := h
      cases h3
      exact ((((ate_name s).trans (ate_x h1)).trans (ate_must _ _)).trans (ate_x h2)).weak (by simp [szS, szSs, szBs, szXs] <;> omega)
    · simp only [Option.map_eq_some_iff] at h
      obtain ⟨⟨x, s2⟩, h2, h3⟩ := h
      cases h3
      exact (((ate_name s).trans (ate_must _ _)).trans (ate_x h2)).weak (by simp [szS, szSs, szBs, szXs] <;> omega)
theorem ate_st : ∀ n, (∀ lv s x s', stmtP branP L n lv s = some (x, s') → Ate L s s' (szS x)) ∧ (∀ lv acc again s l s', stmtsL branP L n lv acc again s = some (l, s') → Ate2 L s s' (szSs acc) (szSs l)) ∧ (∀ o lv s l s', blockP branP L n o lv s = some (l, s') → Ate L s s' (szSs l)) := by
  intro n
  induction n with
  | zero => exact ⟨fun _ _ _ _ h => (by rw [stmtP] at h; cases h), fun _ _ _ _ _ _ h => (by rw [stmtsL] at h; cases h), fun _ _ _ _ _ h => (by rw [blockP] at h; cases h)⟩
  | succ n ih =>
    refine ⟨?_, ?_, ?_⟩
    · intro lv s x s' h
      have on : ∀ {x : ByteArray}, isP L s x = true → Ate L s s.on 1 := fun h => isP_must h
      rw [stmtP] at h
      by_cases c1 : (tok L s.p).kind = 1
      · rw [if_pos c1] at h; exact ate_named h
      rw [if_neg c1] at h
      by_cases c2 : isP L s tSkip = true
      · rw [if_pos c2] at h; cases h; exact (on c2).weak (by simp [szS, szSs, szBs, szXs])
      rw [if_neg c2] at h
      by_cases c3 : isP L s tIf = true
      · rw [if_pos c3] at h
        simp only [Option.bind_eq_some_iff] at h
        obtain ⟨⟨x1, s1⟩, h1, ⟨b1, s2⟩, h2, h3⟩ := h
        have k := ((on c3).trans (ate_x h1)).trans (ih.2.2 _ _ _ _ _ h2)
        split at h3
        · simp only [Option.map_eq_some_iff] at h3
          obtain ⟨⟨c1, s3⟩, h3, h4⟩ := h3
          cases h4
          exact ((k.trans (ih.2.2 _ _ _ _ _ h3)).trans (ate_must _ _)).weak (by simp [szS, szSs, szBs, szXs] <;> omega)
        · cases h3; exact (k.trans (ate_must _ _)).weak (by simp [szS, szSs, szBs, szXs] <;> omega)
      rw [if_neg c3] at h
      by_cases c4 : isP L s tWhile = true
      · rw [if_pos c4] at h
        simp only [Option.bind_eq_some_iff, Option.map_eq_some_iff] at h
        obtain ⟨⟨x1, s1⟩, h1, ⟨b1, s2⟩, h2, h3⟩ := h
        cases h3
        exact ((((on c4).trans (ate_x h1)).trans (ih.2.2 _ _ _ _ _ h2)).trans (ate_must _ _)).weak (by simp [szS, szSs, szBs, szXs] <;> omega)
      rw [if_neg c4] at h
      by_cases c5 : isP L s tCobegin = true
      · rw [if_pos c5] at h
        simp only [Option.map_eq_some_iff] at h
        obtain ⟨⟨b1, s2⟩, h2, h3⟩ := h
        cases h3
        exact (((on c5).trans (ate_branL h2).one).trans (ate_must _ _)).weak (by simp [szS, szSs, szXs, szBs] <;> omega)
      rw [if_neg c5] at h
      by_cases c6 : isP L s (b1 80) = true ∨ isP L s (b1 86) = true
      · rw [if_pos c6] at h
        cases h
        have o1 : Ate L s s.on 1 := by rcases c6 with h | h <;> exact on h
        exact ((((o1.trans (ate_must _ _)).trans (ate_name _)).trans (ate_must _ _))).weak (by simp [szS, szSs, szBs, szXs])
      rw [if_neg c6] at h
      by_cases c7 : isP L s tRegion = true
      · rw [if_pos c7] at h
        have k := (on c7).trans (ate_name s.on)
        split at h
        · rename_i hb
          simp only [Option.bind_eq_some_iff, Option.map_eq_some_iff] at h
          obtain ⟨⟨x1, s1⟩, h1, ⟨b1, s2⟩, h2, h3⟩ := h
          cases h3
          exact ((((k.trans (isP_must hb)).trans (ate_x h1)).trans (ih.2.2 _ _ _ _ _ h2)).trans (ate_must _ _)).weak (by simp [szS, szSs, szBs, szXs] <;> omega)
        · simp only [Option.map_eq_some_iff] at h
          obtain ⟨⟨b1, s2⟩, h2, h3⟩ := h
          cases h3
          exact ((k.trans (ih.2.2 _ _ _ _ _ h2)).trans (ate_must _ _)).weak (by simp [szS, szSs, szBs, szXs] <;> omega)
      rw [if_neg c7] at h
      by_cases c8 : isP L s tRequest = true
      · rw [if_pos c8] at h
        simp only [Option.map_eq_some_iff] at h
        obtain ⟨⟨b1, s2⟩, h2, h3⟩ := h
        cases h3
        exact ((on c8).trans (ate_items h2).one).weak (by simp [szS, szSs, szBs, szXs])
      rw [if_neg c8] at h
      by_cases c9 : isP L s tRelease = true
      · rw [if_pos c9] at h
        simp only [Option.map_eq_some_iff] at h
        obtain ⟨⟨b1, s2⟩, h2, h3⟩ := h
        cases h3
        exact ((on c9).trans (ate_items h2).one).weak (by simp [szS, szSs, szBs, szXs])
      rw [if_neg c9] at h
      by_cases c10 : isP L s tRead = true
      · rw [if_pos c10] at h
        have k := (on c10).trans (ate_name s.on)
        split at h
        · simp only [Option.map_eq_some_iff] at h
          obtain ⟨⟨b1, s2⟩, h2, h3⟩ := h
          cases h3
          exact (k.trans (ate_x h2)).weak (by simp [szS, szSs, szBs, szXs] <;> omega)
        · cases h; exact k.weak (by simp [szS, szSs, szBs, szXs])
      rw [if_neg c10] at h
      by_cases c11 : isP L s tWrite = true
      · rw [if_pos c11] at h
        simp only [Option.map_eq_some_iff] at h
        obtain ⟨⟨b1, s2⟩, h2, h3⟩ := h
        cases h3
        exact ((on c11).trans (ate_x h2)).weak (by simp [szS, szSs, szBs, szXs])
      rw [if_neg c11] at h
      cases h; exact ate_fault s (by omega) _
    · intro lv acc again s l s' h
      rw [stmtsL] at h
      split at h
      · simp only [Option.bind_eq_some_iff] at h
        obtain ⟨⟨x, s1⟩, h1, h2⟩ := h
        have a := ih.2.1 _ _ _ _ _ _ h2
        rw [szSs_snoc] at a
        exact (((ih.1 _ _ _ _ h1).trans (ate_take _ _)).weak (by dsimp only; omega)).then2 a
      · cases h; exact Ate2.refl _ _
    · intro o lv s l s' h
      rw [blockP] at h
      split at h
      · cases h; exact ate_fault s (by omega) _
      · rename_i hb
        split at h
        · rename_i ho
          cases h; exact Ate.bad _ ho (by rw [opens_place]; omega)
        · have hs := isP_lt (L := L) (s := s) (x := o) (by simpa using hb)
          have a : Ate L (opensS L s (lv + 1)) (opensS L s (lv + 1)).on 1 := ate_on (by rw [opens_place]; exact hs)
          exact (((ate_opens s (lv + 1)).trans a).trans (ih.2.1 _ _ _ _ _ _ h).one).weak (by omega)
/-! ### Sources -/
structure DclOK (d : Dcl) : Prop where
  k1 : 1 ≤ d.kind
  k4 : d.kind ≤ 4
  n0 : 0 ≤ d.n
  n1 : d.n ≤ most
  n2 : 3 ≤ d.kind → d.n ≤ 64
def szP (p : Prc) : Nat := 1 + p.params.length + p.vars.length + szSs p.body
def szPs : List Prc → Nat
  | [] => 0
  | p :: l => szP p + szPs l
theorem szPs_snoc (e : Prc) : ∀ l : List Prc, szPs (l ++ [e]) = szPs l + szP e
  | [] => by simp [szPs]
  | a :: l => by simp only [List.cons_append, szPs, szPs_snoc e l]; omega
theorem szPs_len : ∀ l : List Prc, l.length ≤ szPs l
  | [] => Nat.le_refl _
  | a :: l => by have := szPs_len l; simp only [List.length_cons, szPs, szP]; omega
theorem szPs_mem : ∀ {l : List Prc} {p : Prc}, p ∈ l → szP p ≤ szPs l
  | a :: l, p, h => by
    simp only [szPs]
    rcases List.mem_cons.1 h with rfl | h
    · omega
    · have := szPs_mem h; omega
structure SrcOK (S : Src) (n : Nat) : Prop where
  decls : ∀ d ∈ S.decls, DclOK d
  procs : ∀ p ∈ S.procs, WFss p.body
  claims : ∀ i ∈ S.claims, ItmOK i
  body : WFss S.body
  size : S.decls.length + szPs S.procs + S.claims.length + szSs S.body ≤ n
theorem ate_size (s : PS) : Ate L s (sizeP L s).2 0 := by
  unfold sizeP
  split
  · exact Ate.refl s
  · rename_i hb
    have hs := isP_lt (L := L) (s := s) (x := b1 91) (by simpa using hb)
    have u : ∀ (s : PS) q, Ate L s (unitS L s q) 0 := fun s q => by
      unfold unitS
      split
      · exact Ate.bad 0 (by simp) (by simp only []; omega)
      · exact Ate.refl s
    exact ((((ate_on hs).trans (ate_num s.on)).trans (u _ _)).trans (ate_must _ _)).weak (by omega)
theorem unitsP_ok (hN : NumsOK L) (k : Int) (s : PS) : 0 ≤ (unitsP L k s).1 ∧ (unitsP L k s).1 ≤ most ∧ ((unitsP L k s).2.c = 0 → 3 ≤ k → (unitsP L k s).1 ≤ 64) := by
  unfold unitsP
  split
  · exact ⟨(numP_ok hN s).1, (numP_ok hN s).2, fun _ h => by omega⟩
  · unfold sizeP
    split
    · exact ⟨Int.le_refl 0, by show (0 : Int) ≤ most; decide, fun _ _ => by simp⟩
    · refine ⟨(numP_ok hN _).1, (numP_ok hN _).2, fun h0 _ => ?_⟩
      have h1 := (mustS_le _ _ _).code h0
      unfold unitS at h1
      split at h1
      · cases h1
      · rename_i hc
        have : ¬ ((numP L s.on).1 < 1 ∨ 64 < (numP L s.on).1) := fun h => hc ⟨h1, h⟩
        dsimp only
        omega
theorem decls_ok (hN : NumsOK L) : ∀ {n : Nat} {acc : List Dcl} {s s' : PS} {l : List Dcl}, declsL L n acc s = some (l, s') → s'.c = 0 → (∀ d ∈ acc, DclOK d) → (∀ d ∈ l, DclOK d)
  | 0, _, _, _, _, h, _, _ => by cases h
  | n + 1, acc, s, s', l, h, h0, ha => by
    rw [declsL] at h
    split at h
    · split at h
      · cases h; exact ha
      · rename_i hk
        refine decls_ok hN h h0 (all_snoc ha ?_)
        have h1 := (declsL_le h).code h0
        have h2 := (mustS_le _ _ _).code h1
        have u := unitsP_ok hN (kindP L s) (nameS L s.on)
        have kb : 1 ≤ kindP L s ∧ kindP L s ≤ 4 := by
          unfold kindP at hk ⊢
          repeat' split
          all_goals first | omega | simp_all
        exact ⟨kb.1, kb.2, u.1, u.2.1, fun hk => u.2.2 h2 hk⟩
    · cases h; exact ha
theorem ate_decls : ∀ {n : Nat} {acc : List Dcl} {s s' : PS} {l : List Dcl}, declsL L n acc s = some (l, s') → Ate2 L s s' acc.length l.length
  | 0, _, _, _, _, h => by cases h
  | n + 1, acc, s, s', l, h => by
    rw [declsL] at h
    split at h
    · split at h
      · cases h; exact Ate2.refl _ _
      · rename_i hk
        have a := ate_decls h
        simp only [List.length_append, List.length_cons, List.length_nil] at a
        have u : ∀ s, Ate L s (unitsP L (kindP L s) s).2 0 := fun s => by
          unfold unitsP
          split
          · exact (ate_num s).weak (by omega)
          · exact ate_size s
        have u2 : ∀ k s, Ate L s (unitsP L k s).2 0 := fun k s => by
          unfold unitsP
          split
          · exact (ate_num s).weak (by omega)
          · exact ate_size s
        exact (((((ate_on (kindP_lt hk)).trans (ate_name s.on)).trans (u2 (kindP L s) _)).trans (ate_must _ _)).weak (by omega)).then2 a
    · cases h; exact Ate2.refl _ _
theorem ate_idents : ∀ {n : Nat} {acc : List Idn} {again : Bool} {s s' : PS} {l : List Idn}, identsL L n acc again s = some (l, s') → Ate2 L s s' acc.length l.length
  | 0, _, _, _, _, _, h => by cases h
  | n + 1, acc, again, s, s', l, h => by
    rw [identsL] at h
    split at h
    · have a := ate_idents h
      simp only [List.length_append, List.length_cons, List.length_nil] at a
      exact (((ate_name s).trans (ate_take _ _)).weak (by omega)).then2 a
    · cases h; exact Ate2.refl _ _
theorem ate_vars : ∀ {n : Nat} {acc : List Idn} {s s' : PS} {l : List Idn}, varsL L n acc s = some (l, s') → Ate2 L s s' acc.length l.length
  | 0, _, _, _, _, h => by cases h
  | n + 1, acc, s, s', l, h => by
    rw [varsL] at h
    split at h
    · rename_i hb
      have a := ate_vars h
      simp only [List.length_append, List.length_cons, List.length_nil] at a
      exact ((((isP_must hb).trans (ate_name s.on)).trans (ate_must _ _)).weak (by omega)).then2 a
    · cases h; exact Ate2.refl _ _
theorem proc_ok (hN : NumsOK L) {n : Nat} {s s' : PS} {p : Prc} (h : procP branP L n s = some (p, s')) : Ate L s s' (szP p) ∧ (s'.c = 0 → WFss p.body) := by
  unfold procP at h
  simp only [Option.bind_eq_some_iff, Option.map_eq_some_iff] at h
  obtain ⟨⟨a, s1⟩, h1, ⟨b, s2⟩, h2, ⟨c, s3⟩, h3, h4⟩ := h
  cases h4
  have ka : Ate L (mustS L (nameS L s) (b1 40)) s1 a.length := by
    unfold paramsP at h1
    split at h1
    · cases h1; exact Ate.refl _
    · exact (ate_idents h1).one
  have kc := ((ate_st n).2.1 _ _ _ _ _ _ h3).one
  have tl := (ate_must (L := L) s3 tEnd).trans (ate_must _ tSemi)
  refine ⟨(((((((((ate_name s).trans (ate_must _ _)).trans ka).trans (ate_must _ _)).trans (ate_must _ _)).trans (ate_vars h2).one).trans (ate_must _ _)).trans kc).trans tl).weak (by simp only [szP]; omega), fun h0 => (st_wf hN n).2.1 _ _ _ _ _ _ h3 (tl.code h0) (by simp only [WFss])⟩
theorem procs_ok (hN : NumsOK L) : ∀ {n : Nat} {acc : List Prc} {s s' : PS} {l : List Prc}, procsL branP L n acc s = some (l, s') → Ate2 L s s' (szPs acc) (szPs l) ∧ (s'.c = 0 → (∀ p ∈ acc, WFss p.body) → ∀ p ∈ l, WFss p.body)
  | 0, _, _, _, _, h => by cases h
  | n + 1, acc, s, s', l, h => by
    rw [procsL] at h
    split at h
    · rename_i hb
      simp only [Option.bind_eq_some_iff] at h
      obtain ⟨⟨p, s1⟩, h1, h2⟩ := h
      have a := procs_ok hN h2
      have b := proc_ok hN h1
      rw [szPs_snoc] at a
      exact ⟨(((isP_must hb).trans b.1).weak (by dsimp only; omega)).then2 a.1, fun h0 ha => a.2 h0 (all_snoc ha (b.2 (a.1.code h0)))⟩
    · cases h; exact ⟨Ate2.refl _ _, fun _ h => h⟩
theorem src_ok (hN : NumsOK L) {n : Nat} {S : Src} (h : srcP branP L n = some (.inl S)) : SrcOK S L.length := by
  simp only [srcP, Option.bind_eq_some_iff, Option.map_eq_some_iff] at h
  obtain ⟨⟨ds, s1⟩, hx1, ⟨ps, s2⟩, hx2, ⟨cl, s3⟩, hx3, ⟨bd, s4⟩, hx4, hx5⟩ := h
  split at hx5
  · rename_i h0
    cases hx5
    have ke : Ate L (mustS L (mustS L s4 tEnd) (b1 46)) (endS L (mustS L (mustS L s4 tEnd) (b1 46))) 0 := by
      unfold endS
      split
      · exact Ate.refl _
      · exact ate_fault _ (by omega) 0
    have k4 := ((ate_must (L := L) s4 tEnd).trans (ate_must _ (b1 46))).trans ke
    have c4 : s4.c = 0 := k4.code h0
    have kb := ((ate_st (L := L) n).2.1 _ _ _ _ _ _ hx4).one
    have kc : Ate L s2 s3 cl.length ∧ (∀ i ∈ cl, ItmOK i) := by
      unfold claimsP at hx3
      split at hx3
      · rename_i hb
        simp only [Option.map_eq_some_iff] at hx3
        obtain ⟨⟨q, s5⟩, h1, h2⟩ := hx3
        cases h2
        exact ⟨(((isP_must hb).trans (ate_items h1).one).trans (ate_must _ _)).weak (by dsimp only; omega), itemsL_wf hN h1 nil_all⟩
      · cases hx3; exact ⟨Ate.refl _, nil_all⟩
    have kp := procs_ok hN hx2
    have kd := ate_decls hx1
    have c3 := kb.code c4
    have c3' := (ate_must (L := L) s3 tBegin).code c3
    have c2 := kc.1.code c3'
    have c1 := kp.1.code c2
    have all := ((((((((ate_must (L := L) ⟨0, 0, 0⟩ tProgram).trans (ate_name _)).trans (ate_must _ tSemi)).trans kd.one).trans kp.1.one).trans kc.1).trans (ate_must _ tBegin)).trans kb).trans k4
    have e1 := all.size h0
    have e2 := all.place
    simp only [Nat.add_zero] at e1 e2
    exact ⟨decls_ok hN hx1 c1 nil_all, kp.2 c2 nil_all, kc.2, (st_wf hN n).2.1 _ _ _ _ _ _ hx4 c4 (by simp only [WFss]), by dsimp only; omega⟩
  · cases hx5
theorem parse_ok {src : List UInt8} {n : Nat} {S : Src} (h : parseP branP src n = some (.inl S)) : SrcOK S (src.length + 1) := by
  unfold parseP at h
  simp only [Option.bind_eq_some_iff] at h
  obtain ⟨q, hlex, hx⟩ := h
  cases q with
  | inr f => simp at hx
  | inl L =>
    have l := lexFrom_len hlex
    simp at l
    have k := src_ok (lexFrom_nums nil_all hlex) hx
    exact ⟨k.decls, k.procs, k.claims, k.body, by have := k.size; omega⟩
end Go.Vm.Parse
