/- What is defined and proved: how whatever was read without a fault is made: which parts each kind of thing has. -/
import Derived.Test.YtbjcfdopkaekjaaTot
namespace Go.Vm.Parse
open Go Go.Proofs
set_option linter.unusedSimpArgs false
set_option linter.unusedVariables false
/-- The operators of two operands. -/
def BinOp (o : Int) : Prop := (9 ≤ o ∧ o ≤ 13) ∨ (15 ≤ o ∧ o ≤ 22)
def most : Int := 9223372036854775807
/-- What an expression of a kind has. -/
def ExOK (kind num op : Int) (name : ByteArray) (n : Nat) : Prop :=
  (kind = 1 ∧ n = 0 ∧ op = 0 ∧ name = ByteArray.empty) ∨ (kind = 2 ∧ n = 0 ∧ op = 0 ∧ (num = 0 ∨ num = 1) ∧ name = ByteArray.empty) ∨ (kind = 3 ∧ n = 0 ∧ num = 0 ∧ op = 0) ∨ (kind = 4 ∧ n = 1 ∧ num = 0 ∧ op = 0) ∨
  (kind = 5 ∧ n = 1 ∧ num = 0 ∧ (op = 23 ∨ op = 14) ∧ name = ByteArray.empty) ∨ (kind = 6 ∧ n = 2 ∧ num = 0 ∧ BinOp op ∧ name = ByteArray.empty)
mutual
def WFx : Ex → Prop
  | .mk kind at_ num op name sub => ExOK kind num op name sub.length ∧ 0 ≤ num ∧ num ≤ most ∧ WFxs sub
def WFxs : List Ex → Prop
  | [] => True
  | e :: es => WFx e ∧ WFxs es
end
theorem WFxs.mem : ∀ {l : List Ex}, WFxs l → ∀ e ∈ l, WFx e
  | [], _, e, h => by cases h
  | a :: l, h, e, he => by
    simp only [WFxs] at h
    rcases List.mem_cons.1 he with rfl | he
    · exact h.1
    · exact WFxs.mem h.2 e he
theorem WFxs.of : ∀ {l : List Ex}, (∀ e ∈ l, WFx e) → WFxs l
  | [], _ => by simp only [WFxs]
  | a :: l, h => by simp only [WFxs]; exact ⟨h a (by simp), WFxs.of fun e he => h e (by simp [he])⟩
theorem WFxs.snoc {l : List Ex} {e : Ex} (h : WFxs l) (he : WFx e) : WFxs (l ++ [e]) :=
  WFxs.of fun x hx => by
    rcases List.mem_append.1 hx with hx | hx
    · exact h.mem x hx
    · rw [List.mem_singleton.1 hx]; exact he
theorem WFx.put {kind at_ num op : Int} {name : ByteArray} {sub : List Ex} (h : ExOK kind num op name sub.length) (h1 : 0 ≤ num) (h2 : num ≤ most) (h3 : WFxs sub) : WFx (.mk kind at_ num op name sub) := by
  simp only [WFx]; exact ⟨h, h1, h2, h3⟩
theorem WFxs.nil : WFxs [] := by simp only [WFxs]
theorem WFxs.one {e : Ex} (h : WFx e) : WFxs [e] := by simp only [WFxs]; exact ⟨h, trivial⟩
theorem WFxs.two {a b : Ex} (h : WFx a) (k : WFx b) : WFxs [a, b] := by simp only [WFxs]; exact ⟨h, k, trivial⟩
/-- Numbers that the reader of bytes found. -/
def NumsOK (L : List Tk) : Prop := ∀ t ∈ L, 0 ≤ t.num ∧ t.num ≤ most
theorem NumsOK.tok {L : List Tk} (h : NumsOK L) (p : Nat) : 0 ≤ (tok L p).num ∧ (tok L p).num ≤ most := by
  unfold Parse.tok
  rw [List.getD_eq_getElem?_getD]
  cases e : L[p]? with
  | none => exact ⟨by decide, by decide⟩
  | some t => exact h t (List.mem_of_getElem? e)
theorem numFrom_ok : ∀ {l : List UInt8} {n m : Int}, (∀ b ∈ l, digitB b = true) → 0 ≤ n → n ≤ most → numFrom l n = some m → 0 ≤ m ∧ m ≤ most
  | [], n, m, _, h0, h1, h => by cases h; exact ⟨h0, h1⟩
  | b :: bs, n, m, hd, h0, h1, h => by
    rw [numFrom] at h
    have hb := hd b (by simp)
    unfold digitB at hb
    simp only [decide_eq_true_eq] at hb
    split at h
    · cases h
    · rename_i hn
      refine numFrom_ok (fun c hc => hd c (by simp [hc])) (by omega) ?_ h
      unfold most
      omega
theorem span_digits (src : List UInt8) (p : UInt8 → Bool) {a : Nat} (ha : a < src.length) (h : p src[a] = true) : ∀ b ∈ (src.drop a).take (spanTo p src (a + 1) - a), p b = true := by
  intro b hb
  unfold spanTo at hb
  rw [List.drop_eq_getElem_cons ha, show a + 1 + ((src.drop (a + 1)).takeWhile p).length - a = ((src.drop (a + 1)).takeWhile p).length + 1 by omega, List.take_succ_cons] at hb
  rcases List.mem_cons.1 hb with rfl | hb
  · exact h
  · have e : (src.drop (a + 1)).take ((src.drop (a + 1)).takeWhile p).length = (src.drop (a + 1)).takeWhile p := by
      generalize src.drop (a + 1) = l
      induction l with
      | nil => rfl
      | cons x l ih =>
        rw [List.takeWhile_cons]
        split
        · simp only [List.length_cons, List.take_succ_cons, ih]
        · rfl
    rw [e] at hb
    generalize src.drop (a + 1) = l at hb
    induction l with
    | nil => cases hb
    | cons x l ih =>
      rw [List.takeWhile_cons] at hb
      split at hb
      · rcases List.mem_cons.1 hb with rfl | hb
        · assumption
        · exact ih hb
      · cases hb
theorem lexStep_num {src : List UInt8} {a to : Nat} (ha : a < src.length) {t : Tk} (h : lexStep src a src[a] = .more to (some t)) : 0 ≤ t.num ∧ t.num ≤ most := by
  have z : (0 : Int) ≤ 0 ∧ (0 : Int) ≤ most := ⟨by decide, by decide⟩
  unfold lexStep at h
  split at h
  · cases h
  split at h
  · split at h <;> cases h
  split at h
  · cases h; exact z
  split at h
  · split at h
    · cases h; exact z
    · split at h
      · cases h
      · cases h; exact z
  split at h
  · rename_i hd
    split at h
    · cases h
    · rename_i n hn
      cases h
      exact numFrom_ok (span_digits src digitB ha hd) (by decide) (by decide) hn
  split at h
  · cases h
  · cases h; exact z
theorem lexFrom_nums {src : List UInt8} : ∀ {n a : Nat} {out l : List Tk}, NumsOK out → lexFrom src n a out = some (.inl l) → NumsOK l
  | 0, _, _, _, _, h => by cases h
  | n + 1, a, out, l, ho, h => by
    rw [lexFrom] at h
    split at h
    · rename_i ha
      split at h
      · cases h
      · exact lexFrom_nums ho h
      · rename_i to t ht
        refine lexFrom_nums (fun x hx => ?_) h
        rcases List.mem_append.1 hx with hx | hx
        · exact ho x hx
        · rw [List.mem_singleton.1 hx]; exact lexStep_num ha ht
    · cases h
      intro x hx
      rcases List.mem_append.1 hx with hx | hx
      · exact ho x hx
      · rw [List.mem_singleton.1 hx]; exact ⟨Int.le_refl 0, by show (0 : Int) ≤ most; decide⟩
theorem opFrom_ok (k : Int) (x : ByteArray) : ∀ l : List (ByteArray × Int × Int), (∀ q ∈ l, BinOp q.2.2) → opFrom k x l ≠ 0 → BinOp (opFrom k x l)
  | [], _, h => absurd rfl h
  | (t, r, o) :: l, ho, h => by
    rw [opFrom] at h ⊢
    split
    · exact ho (t, r, o) (by simp)
    · rename_i hc
      rw [if_neg hc] at h
      exact opFrom_ok k x l (fun q hq => ho q (by simp [hq])) h
theorem opsL_ok : ∀ q ∈ opsL, BinOp q.2.2 := by
  have : opsL.all (fun q => decide ((9 ≤ q.2.2 ∧ q.2.2 ≤ 13) ∨ (15 ≤ q.2.2 ∧ q.2.2 ≤ 22))) = true := by decide +kernel
  intro q hq
  have h := List.all_eq_true.1 this q hq
  simp only [decide_eq_true_eq] at h
  exact h
theorem opP_ok {L : List Tk} {s : PS} {k : Int} (h : opP L s k ≠ 0) : BinOp (opP L s k) := by
  unfold opP at h ⊢
  split
  · rename_i hc; rw [if_pos hc] at h; exact opFrom_ok _ _ _ opsL_ok h
  · rename_i hc; rw [if_neg hc] at h; exact absurd rfl h
variable {L : List Tk}
def XC.arg : XC → Prop
  | .loop _ _ x => WFx x
  | _ => True
theorem x_wf (hN : NumsOK L) : ∀ n cmd s e s', xP L n cmd s = some (e, s') → s'.c = 0 → cmd.arg → WFx e := by
  intro n
  induction n with
  | zero => intro cmd s e s' h; cases h
  | succ n ih =>
    intro cmd s e s' h h0 ha
    have tk := hN.tok s.p
    have z : (0 : Int) ≤ 0 ∧ (0 : Int) ≤ most := ⟨by decide, by decide⟩
    cases cmd with
    | row k lv =>
      rw [xP] at h
      split at h
      · rename_i hc; cases h; exact absurd h0 hc
      · split at h
        · exact ih _ _ _ _ h h0 trivial
        · split at h
          · split at h
            · exact ih _ _ _ _ h h0 trivial
            · split at h
              · rename_i ho; cases h; exact absurd h0 ho
              · simp only [Option.map_eq_some_iff] at h
                obtain ⟨⟨e1, s1⟩, h1, h2⟩ := h
                cases h2
                exact WFx.put (Or.inr (Or.inr (Or.inr (Or.inr (Or.inl ⟨rfl, rfl, rfl, Or.inl rfl, rfl⟩))))) (z.1) (z.2) (WFxs.one (ih _ _ _ _ h1 h0 trivial))
          · simp only [Option.bind_eq_some_iff] at h
            obtain ⟨⟨e1, s1⟩, h1, h2⟩ := h
            exact ih _ _ _ _ h2 h0 (ih _ _ _ _ h1 ((x_le L _ _ _ _ _ h2).1.code h0) trivial)
    | loop k lv x =>
      rw [xP] at h
      split at h
      · cases h; exact ha
      · rename_i hop
        simp only [Option.bind_eq_some_iff] at h
        obtain ⟨⟨e1, s1⟩, h1, h2⟩ := h
        have w : s1.c = 0 → WFx (.mk 6 (tok L s.p).at_ 0 (opP L s k) ByteArray.empty [x, e1]) := fun h0 => by
          exact WFx.put (Or.inr (Or.inr (Or.inr (Or.inr (Or.inr ⟨rfl, rfl, rfl, opP_ok hop, rfl⟩))))) (z.1) (z.2) (WFxs.two ha (ih _ _ _ _ h1 h0 trivial))
        split at h2
        · cases h2; exact w h0
        · exact ih _ _ _ _ h2 h0 (w ((x_le L _ _ _ _ _ h2).1.code h0))
    | fact lv =>
      rw [xP] at h
      split at h
      · split at h
        · rename_i ho; cases h; exact absurd h0 ho
        · simp only [Option.map_eq_some_iff] at h
          obtain ⟨⟨e1, s1⟩, h1, h2⟩ := h
          cases h2
          exact WFx.put (Or.inr (Or.inr (Or.inr (Or.inr (Or.inl ⟨rfl, rfl, rfl, Or.inr rfl, rfl⟩))))) (z.1) (z.2) (WFxs.one (ih _ _ _ _ h1 h0 trivial))
      · split at h
        · cases h
          exact WFx.put (Or.inl ⟨rfl, rfl, rfl, rfl⟩) (tk.1) (tk.2) (WFxs.nil)
        · split at h
          · cases h
            exact WFx.put (Or.inr (Or.inl ⟨rfl, rfl, rfl, Or.inr rfl, rfl⟩)) (by decide) (by decide) (WFxs.nil)
          · split at h
            · cases h
              exact WFx.put (Or.inr (Or.inl ⟨rfl, rfl, rfl, Or.inl rfl, rfl⟩)) (by decide) (by decide) (WFxs.nil)
            · split at h
              · split at h
                · rename_i ho; cases h; exact absurd h0 ho
                · simp only [Option.map_eq_some_iff] at h
                  obtain ⟨⟨e1, s1⟩, h1, h2⟩ := h
                  cases h2
                  exact ih _ _ _ _ h1 ((mustS_le _ _ _).code h0) trivial
              · split at h
                · split at h
                  · cases h
                    exact WFx.put (Or.inr (Or.inr (Or.inl ⟨rfl, rfl, rfl, rfl⟩))) (z.1) (z.2) (WFxs.nil)
                  · simp only [Option.map_eq_some_iff] at h
                    obtain ⟨⟨e1, s1⟩, h1, h2⟩ := h
                    cases h2
                    exact WFx.put (Or.inr (Or.inr (Or.inr (Or.inl ⟨rfl, rfl, rfl, rfl⟩)))) (z.1) (z.2) (WFxs.one (ih _ _ _ _ h1 h0 trivial))
                · cases h; exact absurd h0 (faultS_le L s (by omega)).2
    | index lv =>
      rw [xP] at h
      split at h
      · cases h; exact absurd h0 (faultS_le L s (by omega)).2
      · split at h
        · cases h; exact absurd h0 (faultS_le L _ (by omega)).2
        · simp only [Option.map_eq_some_iff] at h
          obtain ⟨⟨e1, s1⟩, h1, h2⟩ := h
          cases h2
          exact ih _ _ _ _ h1 ((mustS_le _ _ _).code h0) trivial
/-! ### Statements -/
def ItmOK (i : Itm) : Prop := 0 ≤ i.n ∧ i.n ≤ most
def BraOK (b : Bra) : Prop := WFxs b.args ∧ ∀ i ∈ b.claims, ItmOK i
/-- What a statement of a kind has. -/
structure StOK (kind : Int) (ne nbody nels nbr nitems : Nat) : Prop where
  lo : 1 ≤ kind
  hi : kind ≤ 15
  e : (kind = 1 ∨ kind = 7 ∨ kind = 8 ∨ kind = 9 ∨ kind = 11 ∨ kind = 12 ∨ kind = 13 → ne = 0) ∧ (kind = 2 ∨ kind = 4 ∨ kind = 5 ∨ kind = 14 ∨ kind = 15 → ne = 1) ∧ (kind = 3 → ne = 2) ∧ (kind = 10 → ne ≤ 1)
  body : kind ≠ 4 → kind ≠ 5 → kind ≠ 10 → nbody = 0
  els : kind ≠ 4 → nels = 0
  br : kind ≠ 7 → nbr = 0
  items : kind ≠ 11 → kind ≠ 12 → nitems = 0
mutual
def WFs : Stm → Prop
  | .mk kind at_ name e body els br items => StOK kind e.length body.length els.length br.length items.length ∧ WFxs e ∧ WFss body ∧ WFss els ∧ (∀ b ∈ br, BraOK b) ∧ ∀ i ∈ items, ItmOK i
def WFss : List Stm → Prop
  | [] => True
  | s :: l => WFs s ∧ WFss l
end
theorem WFss.mem : ∀ {l : List Stm}, WFss l → ∀ e ∈ l, WFs e
  | [], _, e, h => by cases h
  | a :: l, h, e, he => by
    simp only [WFss] at h
    rcases List.mem_cons.1 he with rfl | he
    · exact h.1
    · exact WFss.mem h.2 e he
theorem WFss.of : ∀ {l : List Stm}, (∀ e ∈ l, WFs e) → WFss l
  | [], _ => by simp only [WFss]
  | a :: l, h => by simp only [WFss]; exact ⟨h a (by simp), WFss.of fun e he => h e (by simp [he])⟩
theorem WFss.snoc {l : List Stm} {e : Stm} (h : WFss l) (he : WFs e) : WFss (l ++ [e]) :=
  WFss.of fun x hx => by
    rcases List.mem_append.1 hx with hx | hx
    · exact h.mem x hx
    · rw [List.mem_singleton.1 hx]; exact he
theorem numP_ok (hN : NumsOK L) (s : PS) : 0 ≤ (numP L s).1 ∧ (numP L s).1 ≤ most := by
  unfold numP
  split
  · exact hN.tok _
  · exact ⟨by decide, by decide⟩
theorem all_snoc {α : Type} {Q : α → Prop} {l : List α} {a : α} (h : ∀ x ∈ l, Q x) (ha : Q a) : ∀ x ∈ l ++ [a], Q x := fun x hx => by
  rcases List.mem_append.1 hx with hx | hx
  · exact h x hx
  · rw [List.mem_singleton.1 hx]; exact ha
theorem itemsL_wf (hN : NumsOK L) : ∀ {n : Nat} {acc : List Itm} {again : Bool} {s s' : PS} {l : List Itm}, itemsL L n acc again s = some (l, s') → (∀ i ∈ acc, ItmOK i) → ∀ i ∈ l, ItmOK i
  | 0, _, _, _, _, _, h, _ => by cases h
  | n + 1, acc, again, s, s', l, h, ha => by
    rw [itemsL] at h
    split at h
    · exact itemsL_wf hN h (all_snoc ha (numP_ok hN _))
    · cases h; exact ha
theorem argsL_wf (hN : NumsOK L) {lv : Int} : ∀ {n : Nat} {acc : List Ex} {again : Bool} {s s' : PS} {l : List Ex}, argsL L lv n acc again s = some (l, s') → s'.c = 0 → WFxs acc → WFxs l
  | 0, _, _, _, _, _, h, _, _ => by cases h
  | n + 1, acc, again, s, s', l, h, h0, ha => by
    rw [argsL] at h
    split at h
    · simp only [Option.bind_eq_some_iff] at h
      obtain ⟨⟨x, s1⟩, h1, h2⟩ := h
      exact argsL_wf hN h2 h0 (ha.snoc (x_wf hN _ _ _ _ _ h1 ((takeS_le _ _ _).code ((argsL_le h2).code h0)) trivial))
    · cases h; exact ha
theorem argsP_wf (hN : NumsOK L) {n : Nat} {lv : Int} {s s' : PS} {l : List Ex} (h : argsP L n lv s = some (l, s')) (h0 : s'.c = 0) : WFxs l := by
  unfold argsP at h
  split at h
  · cases h; simp only [WFxs]
  · simp only [Option.map_eq_some_iff] at h
    obtain ⟨⟨x, s1⟩, h1, h2⟩ := h
    cases h2
    exact argsL_wf hN h1 ((mustS_le _ _ _).code h0) (by simp only [WFxs])
theorem branP_wf (hN : NumsOK L) {n : Nat} {lv : Int} {s s' : PS} {b : Bra} (h : branP L n lv s = some (b, s')) (h0 : s'.c = 0) : BraOK b := by
  unfold branP at h
  simp only [Option.bind_eq_some_iff] at h
  obtain ⟨⟨a, s1⟩, h1, h2⟩ := h
  split at h2
  · simp only [Option.map_eq_some_iff] at h2
    obtain ⟨⟨x, s2⟩, h3, h4⟩ := h2
    cases h4
    exact ⟨argsP_wf hN h1 ((PS.le_on _).code ((itemsL_le h3).code h0)), itemsL_wf hN h3 (fun i hi => by cases hi)⟩
  · cases h2
    exact ⟨argsP_wf hN h1 h0, fun i hi => by cases hi⟩
theorem branL_wf (hN : NumsOK L) {lv : Int} : ∀ {n : Nat} {acc : List Bra} {again : Bool} {s s' : PS} {l : List Bra}, branL branP L lv n acc again s = some (l, s') → s'.c = 0 → (∀ b ∈ acc, BraOK b) → ∀ b ∈ l, BraOK b
  | 0, _, _, _, _, _, h, _, _ => by cases h
  | n + 1, acc, again, s, s', l, h, h0, ha => by
    rw [branL] at h
    split at h
    · simp only [Option.bind_eq_some_iff] at h
      obtain ⟨⟨x, s1⟩, h1, h2⟩ := h
      exact branL_wf hN h2 h0 (all_snoc ha (branP_wf hN h1 ((takeS_le _ _ _).code ((branL_le (branP_BLt L) h2).code h0))))
    · cases h; exact ha
theorem nil_all {α : Type} {Q : α → Prop} : ∀ x ∈ ([] : List α), Q x := fun x h => by cases h
theorem WFs.put {kind at_ : Int} {name : ByteArray} {e : List Ex} {body els : List Stm} {br : List Bra} {items : List Itm} (h : StOK kind e.length body.length els.length br.length items.length) (h1 : WFxs e) (h2 : WFss body := by simp only [WFss]) (h3 : WFss els := by simp only [WFss])
    (h4 : ∀ b ∈ br, BraOK b := by exact nil_all) (h5 : ∀ i ∈ items, ItmOK i := by exact nil_all) : WFs (.mk kind at_ name e body els br items) := by
  simp only [WFs]; exact ⟨h, h1, h2, h3, h4, h5⟩
theorem namedP_wf (hN : NumsOK L) {n : Nat} {lv : Int} {s s' : PS} {x : Stm} (h : namedP L n lv s = some (x, s')) (h0 : s'.c = 0) : WFs x := by
  unfold namedP at h
  split at h
  · simp only [Option.map_eq_some_iff] at h
    obtain ⟨⟨x, s1⟩, h1, h2⟩ := h
    cases h2
    exact WFs.put ⟨by omega, by omega, by simp, by simp, by simp, by simp, by simp⟩ (argsP_wf hN h1 h0)
  · split at h
    · simp only [Option.bind_eq_some_iff, Option.map_eq_some_iff] at h
      obtain ⟨⟨i, s1⟩, h1, ⟨x, s2⟩, h2, h3⟩ := h
      cases h3
      exact WFs.put ⟨by omega, by omega, by simp, by simp, by simp, by simp, by simp⟩ (WFxs.two (x_wf hN _ _ _ _ _ h1 ((mustS_le _ _ _).code ((x_lt h2).le.code h0)) trivial) (x_wf hN _ _ _ _ _ h2 h0 trivial))
    · simp only [Option.map_eq_some_iff] at h
      obtain ⟨⟨x, s2⟩, h2, h3⟩ := h
      cases h3
      exact WFs.put ⟨by omega, by omega, by simp, by simp, by simp, by simp, by simp⟩ (WFxs.one (x_wf hN _ _ _ _ _ h2 h0 trivial))
theorem st_wf (hN : NumsOK L) : ∀ n, (∀ lv s x s', stmtP branP L n lv s = some (x, s') → s'.c = 0 → WFs x) ∧ (∀ lv acc again s l s', stmtsL branP L n lv acc again s = some (l, s') → s'.c = 0 → WFss acc → WFss l) ∧ (∀ o lv s l s', blockP branP L n o lv s = some (l, s') → s'.c = 0 → WFss l) := by
  have hB := branP_BLt L
  intro n
  induction n with
  | zero => exact ⟨fun _ _ _ _ h => (by rw [stmtP] at h; cases h), fun _ _ _ _ _ _ h => (by rw [stmtsL] at h; cases h), fun _ _ _ _ _ h => (by rw [blockP] at h; cases h)⟩
  | succ n ih =>
    have mc := fun (s : PS) (x : ByteArray) => (mustS_le L s x).code
    have nx : WFxs [] := by simp only [WFxs]
    refine ⟨?_, ?_, ?_⟩
    · intro lv s x s' h h0
      rw [stmtP] at h
      by_cases c1 : (tok L s.p).kind = 1
      · rw [if_pos c1] at h; exact namedP_wf hN h h0
      rw [if_neg c1] at h
      by_cases c2 : isP L s tSkip = true
      · rw [if_pos c2] at h; cases h
        exact WFs.put ⟨by omega, by omega, by simp, by simp, by simp, by simp, by simp⟩ nx
      rw [if_neg c2] at h
      by_cases c3 : isP L s tIf = true
      · rw [if_pos c3] at h
        simp only [Option.bind_eq_some_iff] at h
        obtain ⟨⟨x1, s1⟩, h1, ⟨b1, s2⟩, h2, h3⟩ := h
        have fin : ∀ (c : List Stm), s2.c = 0 → WFss c → WFs (.mk 4 (tok L s.p).at_ ByteArray.empty [x1] b1 c [] []) := fun c hc hw =>
          WFs.put ⟨by omega, by omega, by simp, by simp, by simp, by simp, by simp⟩ (WFxs.one (x_wf hN _ _ _ _ _ h1 (((st_le hB n).2.2 _ _ _ _ _ h2).code hc) trivial)) (ih.2.2 _ _ _ _ _ h2 hc) hw
        split at h3
        · simp only [Option.map_eq_some_iff] at h3
          obtain ⟨⟨c1, s3⟩, h3, h4⟩ := h3
          cases h4
          have k := mc _ _ h0
          exact fin _ (((st_le hB n).2.2 _ _ _ _ _ h3).code k) (ih.2.2 _ _ _ _ _ h3 k)
        · cases h3; exact fin _ (mc _ _ h0) (by simp only [WFss])
      rw [if_neg c3] at h
      by_cases c4 : isP L s tWhile = true
      · rw [if_pos c4] at h
        simp only [Option.bind_eq_some_iff, Option.map_eq_some_iff] at h
        obtain ⟨⟨x1, s1⟩, h1, ⟨b1, s2⟩, h2, h3⟩ := h
        cases h3
        have k := mc _ _ h0
        exact WFs.put ⟨by omega, by omega, by simp, by simp, by simp, by simp, by simp⟩ (WFxs.one (x_wf hN _ _ _ _ _ h1 (((st_le hB n).2.2 _ _ _ _ _ h2).code k) trivial)) (ih.2.2 _ _ _ _ _ h2 k)
      rw [if_neg c4] at h
      by_cases c5 : isP L s tCobegin = true
      · rw [if_pos c5] at h
        simp only [Option.map_eq_some_iff] at h
        obtain ⟨⟨b1, s2⟩, h2, h3⟩ := h
        cases h3
        exact WFs.put ⟨by omega, by omega, by simp, by simp, by simp, by simp, by simp⟩ nx (h4 := branL_wf hN h2 (mc _ _ h0) nil_all)
      rw [if_neg c5] at h
      by_cases c6 : isP L s (b1 80) = true ∨ isP L s (b1 86) = true
      · rw [if_pos c6] at h
        cases h
        refine WFs.put ?_ nx
        split
        · exact ⟨by omega, by omega, by simp, by simp, by simp, by simp, by simp⟩
        · exact ⟨by omega, by omega, by simp, by simp, by simp, by simp, by simp⟩
      rw [if_neg c6] at h
      by_cases c7 : isP L s tRegion = true
      · rw [if_pos c7] at h
        split at h
        · simp only [Option.bind_eq_some_iff, Option.map_eq_some_iff] at h
          obtain ⟨⟨x1, s1⟩, h1, ⟨b1, s2⟩, h2, h3⟩ := h
          cases h3
          have k := mc _ _ h0
          exact WFs.put ⟨by omega, by omega, by simp, by simp, by simp, by simp, by simp⟩ (WFxs.one (x_wf hN _ _ _ _ _ h1 (((st_le hB n).2.2 _ _ _ _ _ h2).code k) trivial)) (ih.2.2 _ _ _ _ _ h2 k)
        · simp only [Option.map_eq_some_iff] at h
          obtain ⟨⟨b1, s2⟩, h2, h3⟩ := h
          cases h3
          exact WFs.put ⟨by omega, by omega, by simp, by simp, by simp, by simp, by simp⟩ nx (ih.2.2 _ _ _ _ _ h2 (mc _ _ h0))
      rw [if_neg c7] at h
      by_cases c8 : isP L s tRequest = true
      · rw [if_pos c8] at h
        simp only [Option.map_eq_some_iff] at h
        obtain ⟨⟨b1, s2⟩, h2, h3⟩ := h
        cases h3
        exact WFs.put ⟨by omega, by omega, by simp, by simp, by simp, by simp, by simp⟩ nx (h5 := itemsL_wf hN h2 nil_all)
      rw [if_neg c8] at h
      by_cases c9 : isP L s tRelease = true
      · rw [if_pos c9] at h
        simp only [Option.map_eq_some_iff] at h
        obtain ⟨⟨b1, s2⟩, h2, h3⟩ := h
        cases h3
        exact WFs.put ⟨by omega, by omega, by simp, by simp, by simp, by simp, by simp⟩ nx (h5 := itemsL_wf hN h2 nil_all)
      rw [if_neg c9] at h
      by_cases c10 : isP L s tRead = true
      · rw [if_pos c10] at h
        split at h
        · simp only [Option.map_eq_some_iff] at h
          obtain ⟨⟨b1, s2⟩, h2, h3⟩ := h
          cases h3
          exact WFs.put ⟨by omega, by omega, by simp, by simp, by simp, by simp, by simp⟩ (WFxs.one (x_wf hN _ _ _ _ _ h2 h0 trivial))
        · cases h; exact WFs.put ⟨by omega, by omega, by simp, by simp, by simp, by simp, by simp⟩ nx
      rw [if_neg c10] at h
      by_cases c11 : isP L s tWrite = true
      · rw [if_pos c11] at h
        simp only [Option.map_eq_some_iff] at h
        obtain ⟨⟨b1, s2⟩, h2, h3⟩ := h
        cases h3
        exact WFs.put ⟨by omega, by omega, by simp, by simp, by simp, by simp, by simp⟩ (WFxs.one (x_wf hN _ _ _ _ _ h2 h0 trivial))
      rw [if_neg c11] at h
      cases h; exact absurd h0 (faultS_le L s (by omega)).2
    · intro lv acc again s l s' h h0 ha
      rw [stmtsL] at h
      split at h
      · simp only [Option.bind_eq_some_iff] at h
        obtain ⟨⟨x, s1⟩, h1, h2⟩ := h
        exact ih.2.1 _ _ _ _ _ _ h2 h0 (ha.snoc (ih.1 _ _ _ _ h1 ((takeS_le _ _ _).code (((st_le hB n).2.1 _ _ _ _ _ _ h2).code h0))))
      · cases h; exact ha
    · intro o lv s l s' h h0
      rw [blockP] at h
      split at h
      · cases h; simp only [WFss]
      · split at h
        · cases h; simp only [WFss]
        · exact ih.2.1 _ _ _ _ _ _ h h0 (by simp only [WFss])
end Go.Vm.Parse
