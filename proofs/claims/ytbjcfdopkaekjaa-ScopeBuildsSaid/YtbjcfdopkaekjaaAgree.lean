/- What is proved: the table and the reference's table agree, of any source: plain words, without program or heap. -/
import Derived.Test.YtbjcfdopkaekjaaRef5
import Derived.Test.YtbjcfdopkaekjaaSize
namespace Go.Vm.Scope
open Go Go.Proofs Go.Vm.Parse
set_option linter.unusedSimpArgs false
set_option linter.unusedVariables false
def endF : Int → List Nm → Int
  | a, [] => a
  | a, m :: l => if clsP m.kind = 3 then endF (a + max m.size 1) l else endF a l
def regL : Nat → List (ByteArray × Nm) → List (ByteArray × Int)
  | _, [] => []
  | n, (y, m) :: l => if m.kind = 3 then (y, (n : Int)) :: regL (n + 1) l else regL n l
def numF : Nat → List ByteArray → List (ByteArray × Int)
  | _, [] => []
  | k, x :: l => (x, (k : Int)) :: numF (k + 1) l
theorem ofF_snoc (k : Int) (m : Nm) (v : Int) : ∀ l : List (Nm × Int), ofF k (l ++ [(m, v)]) = ofF k l ++ (if m.kind = k then [v] else [])
  | [] => by simp [ofF]
  | (a, b) :: l => by
    simp only [List.cons_append, ofF, ofF_snoc k m v l]
    split <;> simp
theorem celF_snoc (m : Nm) : ∀ (a : Int) (l : List Nm), celF a (l ++ [m]) = celF a l ++ (if clsP m.kind = 3 then [⟨endF a l, m.size⟩] else [])
  | a, [] => by simp [celF, endF]
  | a, b :: l => by
    simp only [List.cons_append, celF, endF]
    split
    · rw [celF_snoc m _ l]; simp
    · rw [celF_snoc m _ l]
theorem endF_snoc (m : Nm) : ∀ (a : Int) (l : List Nm), endF a (l ++ [m]) = if clsP m.kind = 3 then endF a l + max m.size 1 else endF a l
  | a, [] => by simp [endF]
  | a, b :: l => by
    simp only [List.cons_append, endF]
    split
    · rw [endF_snoc m _ l]
    · rw [endF_snoc m _ l]
theorem regL_snoc (y : ByteArray) (m : Nm) : ∀ (n : Nat) (l : List (ByteArray × Nm)), regL n (l ++ [(y, m)]) = regL n l ++ (if m.kind = 3 then [(y, ((n + (regL n l).length : Nat) : Int))] else [])
  | n, [] => by simp [regL]
  | n, (a, b) :: l => by
    simp only [List.cons_append, regL]
    split
    · rw [regL_snoc y m (n + 1) l]
      simp only [List.cons_append, List.length_cons]
      rw [show n + 1 + (regL (n + 1) l).length = n + ((regL (n + 1) l).length + 1) by omega]
    · rw [regL_snoc y m n l]
theorem numF_snoc (x : ByteArray) : ∀ (k : Nat) (l : List ByteArray), numF k (l ++ [x]) = numF k l ++ [(x, ((k + l.length : Nat) : Int))]
  | k, [] => by simp [numF]
  | k, a :: l => by
    simp only [List.cons_append, numF, numF_snoc x (k + 1) l, List.length_cons]
    rw [show k + 1 + l.length = k + (l.length + 1) by omega]
theorem numF_len : ∀ (k : Nat) (l : List ByteArray), (numF k l).length = l.length
  | _, [] => rfl
  | k, a :: l => by simp only [numF, List.length_cons, numF_len (k + 1) l]
theorem some_map (o : Option Nat) (f : Nat → Int) : (o.map f).isSome = o.isSome := by cases o <;> rfl
theorem find_num (x : ByteArray) : ∀ (k : Nat) (l : List ByteArray), findP x (numF k l) = Option.map (fun n : Nat => (n : Int)) (idxF x k l)
  | _, [] => rfl
  | k, a :: l => by
    simp only [numF, findP, idxF]
    split
    · rfl
    · exact find_num x (k + 1) l
theorem find_reg (x : ByteArray) : ∀ (n : Nat) (l : List (ByteArray × Nm)), findP x (regL n l) = Option.map (fun n : Nat => (n : Int)) (regF x n l)
  | _, [] => rfl
  | n, (y, m) :: l => by
    simp only [regL, regF]
    split
    · simp only [findP]
      split
      · rfl
      · exact find_reg x (n + 1) l
    · exact find_reg x n l
theorem find_zip (x : ByteArray) : ∀ (l : List ByteArray) (ms : List Nm), ms.length = l.length → (findP x (l.zip ms)).isSome = hasP l x
  | [], _, _ => rfl
  | a :: l, [], h => by cases h
  | a :: l, m :: ms, h => by
    have ih := find_zip x l ms (by simpa using h)
    simp only [List.zip_cons_cons, findP]
    unfold hasP at ih ⊢
    simp only [List.any_cons]
    by_cases ha : a = x
    · simp [ha]
    · simp [ha, ih]
theorem idx_has (x : ByteArray) : ∀ (k : Nat) (l : List ByteArray), (idxF x k l).isSome = hasP l x
  | _, [] => rfl
  | k, a :: l => by
    have ih := idx_has x (k + 1) l
    simp only [idxF]
    unfold hasP at ih ⊢
    simp only [List.any_cons]
    by_cases ha : a = x
    · simp [ha]
    · simp [ha, ih]
/-- Both tables tell the same. -/
structure Agree (T : Tab) (R : RT) : Prop where
  n1 : R.means.length = R.names.length
  n2 : R.values.length = R.names.length
  n3 : R.heads.length = R.procs.length
  n4 : R.locals.length = R.procs.length
  a1 : T.names = R.names.zip R.means
  a2 : T.totals = ofF 1 (R.means.zip R.values)
  a3 : T.semas = ofF 2 (R.means.zip R.values)
  a4 : T.cells = celF 0 R.means
  a5 : T.words = endF 0 R.means
  a6 : T.regions = regL 0 (R.names.zip R.means)
  c1 : T.totals.length = cntP 1 R.means
  c2 : T.semas.length = cntP 2 R.means
  c3 : T.cells.length = cntP 3 R.means
  a7 : T.procs = numF 1 R.procs
  a8 : T.locals = [] :: R.locals.map (numF 0)
  a9 : T.params = 0 :: R.heads
  sz : ∀ m ∈ R.means, 0 ≤ m.size ∧ m.size ≤ 64
  l3 : ∀ l ∈ R.locals, l.length ≤ 8
theorem agree0 : Agree tab0 rt0 :=
  ⟨rfl, rfl, rfl, rfl, rfl, rfl, rfl, rfl, rfl, rfl, rfl, rfl, rfl, rfl, rfl, rfl, by intro m h; exact absurd h (List.not_mem_nil), by intro l h; exact absurd h (List.not_mem_nil)⟩
theorem cntP_3 (k : Int) (h : clsP k = 3) (l : List Nm) : cntP k l = cntP 3 l := by
  have e : clsP 3 = 3 := rfl
  induction l with
  | nil => rfl
  | cons a l ih => simp only [cntP, h, e, ih]
theorem Agree.decl {T : Tab} {R : RT} (h : Agree T R) {d : Dcl} (hk : 1 ≤ d.kind ∧ d.kind ≤ 4) (hn : 3 ≤ d.kind → 0 ≤ d.n ∧ d.n ≤ 64) :
    match intoP T d, (if manyP R d then Except.error (16, d.at_) else if unitsB d then Except.error (24, d.at_) else Except.ok (rdclT R d) : Except (Int × Int) RT) with
    | .error c, .error e => e = (c, d.at_)
    | .ok T', .ok R' => Agree T' R' ∧ R'.procs = R.procs ∧ T'.procs = T.procs
    | _, _ => False := by
  have zip1 : (R.names ++ [d.name]).zip (R.means ++ [⟨d.kind, cntP d.kind R.means, if clsP d.kind = 3 then d.n else 0⟩]) = R.names.zip R.means ++ [(d.name, ⟨d.kind, cntP d.kind R.means, if clsP d.kind = 3 then d.n else 0⟩)] := by
    rw [List.zip_append h.n1.symm]; rfl
  have zip2 : (R.means ++ [(⟨d.kind, cntP d.kind R.means, if clsP d.kind = 3 then d.n else 0⟩ : Nm)]).zip (R.values ++ [d.n]) = R.means.zip R.values ++ [(⟨d.kind, cntP d.kind R.means, if clsP d.kind = 3 then d.n else 0⟩, d.n)] := by
    rw [List.zip_append (h.n1.trans h.n2.symm)]; rfl
  have mk : ∀ T' : Tab, T'.names = T.names ++ [(d.name, ⟨d.kind, cntP d.kind R.means, if clsP d.kind = 3 then d.n else 0⟩)] → T'.totals = T.totals ++ (if d.kind = 1 then [d.n] else []) → T'.semas = T.semas ++ (if d.kind = 2 then [d.n] else []) →
      T'.cells = T.cells ++ (if clsP d.kind = 3 then [⟨T.words, if clsP d.kind = 3 then d.n else 0⟩] else []) → T'.words = (if clsP d.kind = 3 then T.words + max (if clsP d.kind = 3 then d.n else 0) 1 else T.words) → T'.regions = T.regions ++ (if d.kind = 3 then [(d.name, (T.regions.length : Int))] else []) →
      T'.procs = T.procs → T'.locals = T.locals → T'.params = T.params → Agree T' (rdclT R d) ∧ (rdclT R d).procs = R.procs ∧ T'.procs = T.procs := by
    intro T' e1 e2 e3 e4 e5 e6 e7 e8 e9
    have k1 : clsP d.kind = clsP 1 ↔ d.kind = 1 := by unfold clsP; split <;> omega
    have k2 : clsP d.kind = clsP 2 ↔ d.kind = 2 := by unfold clsP; split <;> omega
    have k3 : clsP d.kind = clsP 3 ↔ clsP d.kind = 3 := Iff.rfl
    refine ⟨⟨by simp [rdclT, h.n1], by simp [rdclT, h.n2], h.n3, h.n4, ?_, ?_, ?_, ?_, ?_, ?_, ?_, ?_, ?_, ?_, ?_, ?_, ?_, h.l3⟩, rfl, e7⟩
    · simp only [rdclT]; rw [e1, h.a1, zip1]
    · simp only [rdclT]; rw [e2, h.a2, zip2, ofF_snoc]
    · simp only [rdclT]; rw [e3, h.a3, zip2, ofF_snoc]
    · simp only [rdclT]; rw [e4, h.a4, celF_snoc, h.a5]
    · simp only [rdclT]; rw [e5, endF_snoc, h.a5]
    · simp only [rdclT]; rw [e6, h.a6, zip1, regL_snoc, Nat.zero_add]
    · simp only [rdclT]; rw [e2, cntP_snoc, List.length_append, h.c1]
      simp only [eq_comm (a := clsP d.kind)] at *
      by_cases q : d.kind = 1
      · rw [if_pos q, if_pos (by rw [q])]; rfl
      · rw [if_neg q, if_neg (fun e => q (k1.1 e))]; rfl
    · simp only [rdclT]; rw [e3, cntP_snoc, List.length_append, h.c2]
      by_cases q : d.kind = 2
      · rw [if_pos q, if_pos (by rw [q])]; rfl
      · rw [if_neg q, if_neg (fun e => q (k2.1 e))]; rfl
    · simp only [rdclT]; rw [e4, cntP_snoc, List.length_append, h.c3]
      by_cases q : clsP d.kind = 3
      · rw [if_pos q, if_pos (k3.2 q)]; rfl
      · rw [if_neg q, if_neg (fun e => q (k3.1 e))]; rfl
    · rw [e7]; exact h.a7
    · rw [e8]; exact h.a8
    · rw [e9]; exact h.a9
    · intro m hm
      rcases List.mem_append.1 hm with hm | hm
      · exact h.sz m hm
      · rw [List.mem_singleton.1 hm]
        dsimp only
        split
        · rename_i hc
          exact hn (by unfold clsP at hc; split at hc <;> omega)
        · omega
  unfold intoP
  have k1 : d.kind = 1 → clsP d.kind = 1 := fun e => by rw [e]; rfl
  have k2 : d.kind = 2 → clsP d.kind = 2 := fun e => by rw [e]; rfl
  by_cases h1 : d.kind = 1
  · have hc := k1 h1
    have hq : T.totals.length = cntP d.kind R.means := by rw [h1]; exact h.c1
    rw [if_pos h1]
    by_cases q1 : 6 ≤ T.totals.length
    · rw [if_pos q1, if_pos (show manyP R d from .inl ⟨h1, by omega⟩)]
    · rw [if_neg q1, if_neg (show ¬ manyP R d from fun e => by unfold manyP at e; omega)]
      by_cases q2 : d.n < 1 ∨ 1000 < d.n
      · rw [if_pos q2, if_pos (show unitsB d from .inl ⟨h1, q2⟩)]
      · rw [if_neg q2, if_neg (show ¬ unitsB d from fun e => by unfold unitsB at e; omega)]
        refine mk _ ?_ ?_ ?_ ?_ ?_ ?_ rfl rfl rfl
        · rw [if_neg (by omega), ← hq]
        · rw [if_pos h1]
        · rw [if_neg (by omega), List.append_nil]
        · rw [if_neg (by omega), List.append_nil]
        · rw [if_neg (by omega)]
        · rw [if_neg (by omega), List.append_nil]
  rw [if_neg h1]
  by_cases h2 : d.kind = 2
  · have hc := k2 h2
    have hq : T.semas.length = cntP d.kind R.means := by rw [h2]; exact h.c2
    rw [if_pos h2]
    by_cases q1 : 8 ≤ T.semas.length
    · rw [if_pos q1, if_pos (show manyP R d from .inr (.inl ⟨h2, by omega⟩))]
    · rw [if_neg q1, if_neg (show ¬ manyP R d from fun e => by unfold manyP at e; omega)]
      by_cases q2 : d.n < 0 ∨ 1000 < d.n
      · rw [if_pos q2, if_pos (show unitsB d from .inr ⟨h2, q2⟩)]
      · rw [if_neg q2, if_neg (show ¬ unitsB d from fun e => by unfold unitsB at e; omega)]
        refine mk _ ?_ ?_ ?_ ?_ ?_ ?_ rfl rfl rfl
        · rw [if_neg (by omega), ← hq]
        · rw [if_neg (by omega), List.append_nil]
        · rw [if_pos h2]
        · rw [if_neg (by omega), List.append_nil]
        · rw [if_neg (by omega)]
        · rw [if_neg (by omega), List.append_nil]
  rw [if_neg h2]
  have hc : clsP d.kind = 3 := by unfold clsP; split <;> omega
  have hq : T.cells.length = cntP d.kind R.means := by rw [cntP_3 _ hc]; exact h.c3
  by_cases q1 : 16 ≤ T.cells.length
  · rw [if_pos q1, if_pos (show manyP R d from .inr (.inr ⟨hc, by omega⟩))]
  · rw [if_neg q1, if_neg (show ¬ manyP R d from fun e => by unfold manyP at e; omega), if_neg (show ¬ unitsB d from fun e => by unfold unitsB at e; omega)]
    by_cases h3 : d.kind = 3
    · rw [if_pos h3]
      refine mk _ ?_ ?_ ?_ ?_ ?_ ?_ rfl rfl rfl
      · simp only [intoV]; rw [if_pos hc, ← hq]
      · simp only [intoV]; rw [if_neg h1, List.append_nil]
      · simp only [intoV]; rw [if_neg h2, List.append_nil]
      · simp only [intoV]; rw [if_pos hc, if_pos hc]
      · simp only [intoV]; rw [if_pos hc, if_pos hc]
      · simp only [intoV]; rw [if_pos h3]
    · rw [if_neg h3]
      refine mk _ ?_ ?_ ?_ ?_ ?_ ?_ rfl rfl rfl
      · simp only [intoV]; rw [if_pos hc, ← hq]
      · simp only [intoV]; rw [if_neg h1, List.append_nil]
      · simp only [intoV]; rw [if_neg h2, List.append_nil]
      · simp only [intoV]; rw [if_pos hc, if_pos hc]
      · simp only [intoV]; rw [if_pos hc, if_pos hc]
      · simp only [intoV]; rw [if_neg h3, List.append_nil]
/-- What two builders say is the same. -/
def Both (x : Except (Int × Int) Tab) (y : Except (Int × Int) RT) : Prop := match x, y with
  | .error e, .error e' => e = e'
  | .ok T, .ok R => Agree T R
  | _, _ => False
theorem known_has {T : Tab} {R : RT} (h : Agree T R) (x : ByteArray) : knownP T x = (hasP R.names x || hasP R.procs x) := by
  unfold knownP
  rw [h.a1, find_zip x _ _ h.n1, h.a7, find_num, some_map, idx_has]
theorem both_decls : ∀ (l : List Dcl) {T : Tab} {R : RT}, Agree T R → R.procs = [] → (∀ d ∈ l, DclOK d) → Both (declsB T l) (rdeclsB R l) ∧ (∀ R', rdeclsB R l = .ok R' → R'.procs = [])
  | [], T, R, h, hp, _ => ⟨h, fun R' e => by simp only [rdeclsB, Except.ok.injEq] at e; rw [← e]; exact hp⟩
  | d :: l, T, R, h, hp, hd => by
    have ok := hd d (by simp)
    have k := known_has h d.name
    rw [hp] at k
    have k' : knownP T d.name = hasP R.names d.name := by rw [k]; simp [hasP]
    rw [declsB, rdeclsB]
    unfold rdclB
    rw [k']
    by_cases c : hasP R.names d.name = true
    · rw [if_pos c, if_pos c]
      exact ⟨rfl, fun R' e => by cases e⟩
    · rw [if_neg c, if_neg c]
      have st := h.decl (d := d) ⟨ok.k1, ok.k4⟩ (fun hh => ⟨ok.n0, ok.n2 hh⟩)
      generalize intoP T d = x at st ⊢
      generalize (if manyP R d then .error (16, d.at_) else if unitsB d then .error (24, d.at_) else .ok (rdclT R d) : Except (Int × Int) RT) = y at st ⊢
      cases x with
      | error c =>
        cases y with
        | error e => simp only at st; subst st; exact ⟨rfl, fun R' e => by cases e⟩
        | ok R' => exact st.elim
      | ok T' =>
        cases y with
        | error e => exact st.elim
        | ok R' => exact both_decls l st.1 (st.2.1.trans hp) (fun d hd' => hd d (by simp [hd']))
theorem both_locals (np : Nat) : ∀ (l : List Idn) (i : Nat) (a : List ByteArray), a.length = i → i ≤ 8 → match localsP np (numF 0 a) i l, rlocB np a i l with
    | .error e, .error e' => e = e'
    | .ok x, .ok y => x = numF 0 y ∧ y.length ≤ 8
    | _, _ => False
  | [], i, a, ha, h8 => by simp only [localsP, rlocB]; exact ⟨trivial, by omega⟩
  | x :: l, i, a, ha, h8 => by
    rw [localsP, rlocB, find_num, some_map, idx_has]
    by_cases c : hasP a x.name = true
    · rw [if_pos c, if_pos c]
    · rw [if_neg c, if_neg c]
      by_cases q : (i < np ∧ 4 ≤ i) ∨ 8 ≤ i
      · rw [if_pos q, if_pos q]
      · rw [if_neg q, if_neg q]
        have e : numF 0 a ++ [(x.name, (i : Int))] = numF 0 (a ++ [x.name]) := by rw [numF_snoc, Nat.zero_add, ha]
        rw [e]
        exact both_locals np l (i + 1) (a ++ [x.name]) (by simp [ha]) (by omega)
theorem both_procs : ∀ (l : List Prc) {T : Tab} {R : RT}, Agree T R → Both (procsB procB T l) (rprocsB R l)
  | [], T, R, h => h
  | p :: l, T, R, h => by
    rw [procsB, rprocsB]
    unfold procB rprcB
    have k := known_has h p.name
    have kp : T.procs.length = R.procs.length := by rw [h.a7, numF_len]
    by_cases c : hasP R.names p.name = true ∨ hasP R.procs p.name = true
    · have c' : knownP T p.name = true := by rw [k]; simpa using c
      rw [if_pos c', if_pos c]
      exact rfl
    · have c' : ¬ knownP T p.name = true := by rw [k]; simpa using c
      rw [if_neg c', if_neg c, kp]
      by_cases q : 12 ≤ R.procs.length
      · rw [if_pos q, if_pos q]; exact rfl
      · rw [if_neg q, if_neg q]
        have bl := both_locals p.params.length (p.params ++ p.vars) 0 [] rfl (Nat.zero_le _)
        simp only [numF] at bl
        generalize localsP p.params.length [] 0 (p.params ++ p.vars) = x at bl ⊢
        generalize rlocB p.params.length [] 0 (p.params ++ p.vars) = y at bl ⊢
        cases x with
        | error e =>
          cases y with
          | error e' => simp only at bl; subst bl; exact rfl
          | ok y => exact bl.elim
        | ok x =>
          cases y with
          | error e => exact bl.elim
          | ok y =>
            obtain ⟨rfl, y8⟩ := bl
            refine both_procs l (T := procT T p (numF 0 y)) (R := rprcT R p y) ⟨h.n1, h.n2, by simp [rprcT, h.n3], by simp [rprcT, h.n4], h.a1, h.a2, h.a3, h.a4, h.a5, h.a6, h.c1, h.c2, h.c3, ?_, ?_, ?_, h.sz, ?_⟩
            · simp only [procT, rprcT]
              rw [h.a7, numF_snoc, h.a8]
              simp only [List.length_cons, List.length_map]
              rw [h.n4, show R.procs.length + 1 = 1 + R.procs.length by omega]
            · simp only [procT, rprcT]
              rw [h.a8]
              simp
            · simp only [procT, rprcT]
              rw [h.a9]
              simp
            · intro l hl
              rcases List.mem_append.1 hl with hl | hl
              · exact h.l3 l hl
              · rw [List.mem_singleton.1 hl]; exact y8
theorem both_build (s : Src) (hd : ∀ d ∈ s.decls, DclOK d) : Both (buildP procB s) (rbuildB s) := by
  unfold buildP rbuildB
  have b := (both_decls s.decls agree0 rfl hd).1
  generalize declsB tab0 s.decls = x at b ⊢
  generalize rdeclsB rt0 s.decls = y at b ⊢
  cases x with
  | error e =>
    cases y with
    | error e' => exact b
    | ok R => exact b.elim
  | ok T =>
    cases y with
    | error e => exact b.elim
    | ok R => exact both_procs s.procs b
end Go.Vm.Scope
