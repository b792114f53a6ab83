/- What is defined and proved: what names mean, in plain words and in the heap. What is proved: whether a name is known; what a kind declares. What is proved: what a declaration does to a table. What is proved: the four declarations' 'into'. What is proved: 'into' of variables, shared ones and all. -/
import Derived.Test.YtbjcfdopkaekjaaParse19
import Derived.Test.YtbjcfdopkaekjaaMx
namespace Go.Vm.Scope
open Go Go.Proofs Go.Vm.Parse
set_option maxRecDepth 100000
set_option maxHeartbeats 1000000
set_option linter.unusedSimpArgs false
set_option linter.unusedVariables false
/-! ### Maps by name -/
variable {β : Type}
def ents (f : β → Value) (l : List (ByteArray × β)) : List (Value × Value) := l.map fun e => (.string e.1, f e.2)
def findP (x : ByteArray) : List (ByteArray × β) → Option β
  | [] => none
  | e :: l => if e.1 = x then some e.2 else findP x l
theorem ba_beq (a b : ByteArray) : (a == b) = decide (a = b) := by
  obtain ⟨x⟩ := a
  obtain ⟨y⟩ := b
  show (x == y) = _
  by_cases h : x = y
  · subst h; simp
  · rw [decide_eq_false (fun e => h (by cases e; rfl))]
    simpa using h
theorem find_ents (f : β → Value) (x : ByteArray) : ∀ l : List (ByteArray × β), mapFind (.string x) (ents f l) = some ((findP x l).map f)
  | [] => rfl
  | e :: l => by
    have ih := find_ents f x l
    simp only [ents, List.map_cons] at ih ⊢
    simp only [mapFind, keyIs, ba_beq, findP]
    by_cases h : e.1 = x
    · simp [h]
    · rw [decide_eq_false (fun h' => h h'.symm), if_neg h]
      exact ih
theorem put_ents (f : β → Value) (x : ByteArray) (b : β) : ∀ l : List (ByteArray × β), findP x l = none → mapPut (.string x) (f b) (ents f l) = some (ents f (l ++ [(x, b)]))
  | [], _ => rfl
  | e :: l, h => by
    simp only [findP] at h
    by_cases he : e.1 = x
    · rw [if_pos he] at h; cases h
    · rw [if_neg he] at h
      have ih := put_ents f x b l h
      simp only [ents, List.map_cons, List.cons_append] at ih ⊢
      simp only [mapPut, keyIs, ba_beq]
      rw [decide_eq_false (fun h' => he h'.symm)]
      simp only [ih, Option.map_some]
theorem len_ents (f : β → Value) (l : List (ByteArray × β)) : (ents f l).length = l.length := by simp [ents]
/-! ### The table -/
structure Nm where
  kind : Int
  index : Int
  size : Int
def Nm.v (x : Nm) : Value := .agg ⟨[.int .i64 x.kind, .int .i64 x.index, .int .i64 x.size]⟩
def vI (n : Int) : Value := .int .i64 n
structure Cel where
  base : Int
  size : Int
structure Tab where
  names : List (ByteArray × Nm)
  procs : List (ByteArray × Int)
  locals : List (List (ByteArray × Int))
  params : List Int
  cells : List Cel
  semas : List Int
  totals : List Int
  regions : List (ByteArray × Int)
  words : Int
def repInt : Rep Int where
  k := 1
  R _ _ x cs := cs = [.int .i64 x]
  len h := by subst h; rfl
  move _ _ _ _ h := h
def repCel : Rep Cel where
  k := 2
  R _ _ x cs := cs = [.int .i64 x.base, .int .i64 x.size]
  len h := by subst h; rfl
  move _ _ _ _ h := h
def repLoc : Rep (List (ByteArray × Int)) where
  k := 1
  R H S l cs := (cs = [.map none] ∧ l = []) ∨ ∃ id, cs = [.map (some id)] ∧ S id ∧ H.get id = .map (ents vI l)
  len h := by rcases h with ⟨rfl, _⟩ | ⟨id, rfl, _⟩ <;> rfl
  move k hs l cs h := by
    rcases h with h | ⟨id, h1, h2, h3⟩
    · exact .inl h
    · have := hs id h2 (Heap.lt_of_get h3 (by simp))
      exact .inr ⟨id, h1, this.1, k.at h3 (by simp) this.2⟩
/-- A table in the heap. What is its own has a colour. -/
structure RTab (H : Heap) (col : Nat → Nat) (tid nid pid rid : Nat) (v1 v2 v3 v4 v5 : Value) (T : Tab) : Prop where
  obj : H.get tid = .row true 0 1 [.map (some nid), .map (some pid), v1, v2, v3, v4, v5, .map (some rid), .int .i64 T.words]
  tc : col tid = 1
  nm : H.get nid = .map (ents Nm.v T.names)
  nc : col nid = 2
  pm : H.get pid = .map (ents vI T.procs)
  pc : col pid = 3
  rm : H.get rid = .map (ents vI T.regions)
  rc : col rid = 4
  g1 : repLoc.G H (fun i => col i = 5) v1 T.locals
  g2 : repInt.G H (fun i => col i = 6) v2 T.params
  g3 : repCel.G H (fun i => col i = 7) v3 T.cells
  g4 : repInt.G H (fun i => col i = 8) v4 T.semas
  g5 : repInt.G H (fun i => col i = 9) v5 T.totals
  top : ∀ i, H.n ≤ i → col i = 0
section
variable {H H' : Heap} {col : Nat → Nat} {tid nid pid rid : Nat} {v1 v2 v3 v4 v5 : Value} {T : Tab}
theorem RTab.keep {X : Nat → Prop} (h : RTab H col tid nid pid rid v1 v2 v3 v4 v5 T) (k : Same X H H') (hx : ∀ i, X i → col i = 0) : RTab H' col tid nid pid rid v1 v2 v3 v4 v5 T :=
  ⟨k.at h.obj (by simp) (fun e => by have := hx _ e; have := h.tc; omega), h.tc,
    k.at h.nm (by simp) (fun e => by have := hx _ e; have := h.nc; omega), h.nc,
    k.at h.pm (by simp) (fun e => by have := hx _ e; have := h.pc; omega), h.pc,
    k.at h.rm (by simp) (fun e => by have := hx _ e; have := h.rc; omega), h.rc,
    repLoc.G_move k (fun i hi _ => ⟨hi, fun e => by have := hx _ e; omega⟩) h.g1, repInt.G_move k (fun i hi _ => ⟨hi, fun e => by have := hx _ e; omega⟩) h.g2,
    repCel.G_move k (fun i hi _ => ⟨hi, fun e => by have := hx _ e; omega⟩) h.g3, repInt.G_move k (fun i hi _ => ⟨hi, fun e => by have := hx _ e; omega⟩) h.g4,
    repInt.G_move k (fun i hi _ => ⟨hi, fun e => by have := hx _ e; omega⟩) h.g5, fun i hi => h.top i (Nat.le_trans k.n hi)⟩
theorem RTab.lt (h : RTab H col tid nid pid rid v1 v2 v3 v4 v5 T) : tid < H.n ∧ nid < H.n ∧ pid < H.n ∧ rid < H.n :=
  ⟨Heap.lt_of_get h.obj (by simp), Heap.lt_of_get h.nm (by simp), Heap.lt_of_get h.pm (by simp), Heap.lt_of_get h.rm (by simp)⟩
/-- One more in a list of a colour. -/
theorem col_app {α : Type} (ρ : Rep α) {t : TypeId} (F : TF Try.prog t ρ.k) {c : Nat} (hc : c ≠ 0) (top : ∀ i, H.n ≤ i → col i = 0) {v : Value} {l : List α} (g : ρ.G H (fun i => col i = c) v l) (hl : l.length ≤ 100000) {a : α} {cs : List Value} (ha : ρ.R H (fun i => col i = c ∧ ¬ vid v i) a cs) :
    ∃ b' K', ∃ col' : Nat → Nat, exAppend Try.prog [t, t] v (.slice (some ⟨H.n, 0, none⟩) 1 1) (H.push (.row true 0 ρ.k cs)) = some (.slice b' (l.length + 1) (l.length + 1), K') ∧ ρ.G K' (fun i => col' i = c) (.slice b' (l.length + 1) (l.length + 1)) (l ++ [a]) ∧
      Same (fun i => col i = c) H K' ∧ (∀ i, i < H.n → col' i = col i) ∧ (∀ i, K'.n ≤ i → col' i = 0) := by
  have g' : ρ.G H (fun i => col i = c ∨ H.n ≤ i) v l := ρ.G_move (Same.refl (fun _ => False) _) (fun i hi _ => ⟨.inl hi, fun h => h⟩) g
  obtain ⟨v', K', e, gv, k⟩ := ρ.G_app F g' (fun i hi => .inr hi) hl (a := a) (c := cs) (ρ.move (Same.refl (fun _ => False) _) (fun i hi _ => ⟨⟨.inl hi.1, hi.2⟩, fun h => h⟩) _ _ ha)
  obtain ⟨b', rfl⟩ := ρ.G_slice gv
  have e1 : (l ++ [a]).length = l.length + 1 := by simp
  rw [e1] at e gv
  have nk := k.n
  refine ⟨b', K', fun i => if i < H.n then col i else if i < K'.n then c else 0, e, ρ.G_move (Same.refl (fun _ => False) _) (fun i hi hlt => ⟨?_, fun h => h⟩) gv, k.mono fun i hi => (ρ.G_lt g hi).2, fun i hi => if_pos hi, fun i hi => by show (if i < H.n then col i else if i < K'.n then c else 0) = 0; rw [if_neg (by omega), if_neg (by omega)]⟩
  show (if i < H.n then col i else if i < K'.n then c else 0) = c
  by_cases h : i < H.n
  · rw [if_pos h]
    rcases hi with hi | hi
    · exact hi
    · omega
  · rw [if_neg h, if_pos hlt]
end
end Go.Vm.Scope
namespace Go.Vm.Scope
open Go Go.Proofs Go.Vm.Parse
set_option maxRecDepth 100000
set_option maxHeartbeats 1000000
set_option linter.unusedSimpArgs false
set_option linter.unusedVariables false
attribute [local simp] repCells_succ writeAt rd_Fr toList_beq gpe gpn spe gse gsn ne_r0 ne_l0 le_s0 ne_r1 ne_l1 lt_s1 le_s1 ne_r2 ne_l2 lt_s2 le_s2 ne_r3 ne_l3 lt_s3 le_s3 ne_r4 ne_l4 lt_s4 le_s4 ne_r5 ne_l5 lt_s5 le_s5 ne_r6 ne_l6 lt_s6 le_s6 ne_r7 ne_l7 lt_s7 le_s7
section
variable {E : Hooks} (hE : Plain E)
include hE
theorem c_known (args : List Value) (H : Heap) : (run Try.prog E).call 46 args H = callB Try.prog E Try.f46 args H := call_B Try.func46 rfl (by decide +kernel) (hE.no _ rfl rfl) args H
theorem c_of (args : List Value) (H : Heap) : (run Try.prog E).call 47 args H = callB Try.prog E Try.f47 args H := call_B Try.func47 rfl (by decide +kernel) (hE.no _ rfl rfl) args H
theorem c_class (args : List Value) (H : Heap) : (run Try.prog E).call 128 args H = callB Try.prog E Try.f128 args H := call_B Try.func128 rfl (by decide +kernel) (hE.no _ rfl rfl) args H
theorem c_sema (args : List Value) (H : Heap) : (run Try.prog E).call 129 args H = callB Try.prog E Try.f129 args H := call_B Try.func129 rfl (by decide +kernel) (hE.no _ rfl rfl) args H
theorem c_variable (args : List Value) (H : Heap) : (run Try.prog E).call 130 args H = callB Try.prog E Try.f130 args H := call_B Try.func130 rfl (by decide +kernel) (hE.no _ rfl rfl) args H
theorem c_shared (args : List Value) (H : Heap) : (run Try.prog E).call 131 args H = callB Try.prog E Try.f131 args H := call_B Try.func131 rfl (by decide +kernel) (hE.no _ rfl rfl) args H
theorem c_sproc (args : List Value) (H : Heap) : (run Try.prog E).call 48 args H = callB Try.prog E Try.f48 args H := call_B Try.func48 rfl (by decide +kernel) (hE.no _ rfl rfl) args H
theorem c_Build (args : List Value) (H : Heap) : (run Try.prog E).call 14 args H = callB Try.prog E Try.f14 args H := call_B Try.func14 rfl (by decide +kernel) (hE.no _ rfl rfl) args H
end
def knownP (T : Tab) (x : ByteArray) : Bool := (findP x T.names).isSome || (findP x T.procs).isSome
def zN : Value := .agg ⟨[.int .i64 0, .int .i64 0, .int .i64 0]⟩
theorem look_names {H : Heap} {nid : Nat} {l : List (ByteArray × Nm)} (h : H.get nid = .map (ents Nm.v l)) (x : ByteArray) :
    exLookup Try.prog 101 (.map (some nid)) (.string x) true H = some (.tuple #[((findP x l).map Nm.v).getD zN, .bool (findP x l).isSome]) := by
  have f := find_ents Nm.v x l
  cases e : findP x l with
  | none => rw [e] at f; simp only [Option.map_none] at f; simp [exLookup, keyKind, h, f, zN]
  | some b => rw [e] at f; simp only [Option.map_some] at f; simp [exLookup, keyKind, h, f]
theorem look_ints {H : Heap} {nid : Nat} {l : List (ByteArray × Int)} (h : H.get nid = .map (ents vI l)) (x : ByteArray) :
    exLookup Try.prog 102 (.map (some nid)) (.string x) true H = some (.tuple #[((findP x l).map vI).getD (.int .i64 0), .bool (findP x l).isSome]) := by
  have f := find_ents vI x l
  cases e : findP x l with
  | none => rw [e] at f; simp only [Option.map_none] at f; simp [exLookup, keyKind, h, f]
  | some b => rw [e] at f; simp only [Option.map_some] at f; simp [exLookup, keyKind, h, f]
theorem nm_three (o : Option Nm) : ∃ a b c, (o.map Nm.v).getD zN = .agg ⟨[.int .i64 a, .int .i64 b, .int .i64 c]⟩ := by
  cases o with
  | none => exact ⟨0, 0, 0, rfl⟩
  | some x => exact ⟨x.kind, x.index, x.size, rfl⟩
theorem m_class : exMethod Try.prog 145 "signalbox/scope.into" = some 128 := by kernel_rfl
theorem m_sema : exMethod Try.prog 146 "signalbox/scope.into" = some 129 := by kernel_rfl
theorem m_shared : exMethod Try.prog 149 "signalbox/scope.into" = some 131 := by kernel_rfl
theorem m_variable : exMethod Try.prog 147 "signalbox/scope.into" = some 130 := by kernel_rfl
def kindV (k : Int) : Value := if k = 1 then .iface 145 (.agg #[]) else if k = 2 then .iface 146 (.agg #[]) else if k = 3 then .iface 149 (.agg #[]) else .iface 147 (.agg #[])
section
variable {E : Hooks} (hE : Plain E) {H : Heap} {col : Nat → Nat} {tid nid pid rid : Nat} {v1 v2 v3 v4 v5 : Value} {T : Tab}
include hE
theorem known_run (h : RTab H col tid nid pid rid v1 v2 v3 v4 v5 T) (x : ByteArray) : ∃ H', (run Try.prog E).call 46 [.pointer (some ⟨tid, 0, none⟩), .string x] H = some (.val (.bool (knownP T x)), H') ∧ Same (fun _ => False) H H' := by
  suffices key : Gives ((run Try.prog E).call 46 [.pointer (some ⟨tid, 0, none⟩), .string x] H) fun o H' => o = .val (.bool (knownP T x)) ∧ Same (fun _ => False) H H' by
    obtain ⟨o, H', e, rfl, k⟩ := key
    exact ⟨H', e, k⟩
  have g0 := h.obj
  have f1 := look_names h.nm x
  have h1 := h.lt
  obtain ⟨a, b, c, e1⟩ := nm_three (findP x T.names)
  rw [e1] at f1
  have h2 : ∀ o, (H.push o).get pid = .map (ents vI T.procs) := fun o => by rw [Heap.get_push, if_neg (by omega)]; exact h.pm
  have f2 := fun o => look_ints (h2 o) x
  rw [c_known hE, callB, bodyOf]
  unfold knownP
  have hq : ∀ p q : Bool, (if p = true then true else q) = (p || q) := by decide
  generalize (findP x T.names).isSome = p at f1 ⊢
  cases p <;> simp [Try.f46, g0, f1, f2, h1] <;> exact Same.push _ _ _
theorem of_run (k : Int) (H : Heap) : (run Try.prog E).call 47 [.int .i64 k] H = some (.val (kindV k), H) := by
  suffices key : Gives ((run Try.prog E).call 47 [.int .i64 k] H) fun o H' => o = .val (kindV k) ∧ H' = H by
    obtain ⟨o, H', e, rfl, rfl⟩ := key
    exact e
  rw [c_of hE, callB, bodyOf]
  unfold kindV
  by_cases h1 : k = 1
  · simp [Try.f47, h1, ifaceA]
  · by_cases h2 : k = 2
    · simp [Try.f47, h2, ifaceA]
    · by_cases h3 : k = 3
      · simp [Try.f47, h3, ifaceA]
      · simp [Try.f47, h1, h2, h3, ifaceA]
end
end Go.Vm.Scope
namespace Go.Vm.Scope
open Go Go.Proofs Go.Vm.Parse
set_option maxRecDepth 100000
set_option maxHeartbeats 1000000
set_option linter.unusedSimpArgs false
set_option linter.unusedVariables false
attribute [local simp] repCells_succ writeAt rd_Fr toList_beq gpe gpn spe gse gsn ne_r0 ne_l0 le_s0 ne_r1 ne_l1 lt_s1 le_s1 ne_r2 ne_l2 lt_s2 le_s2 ne_r3 ne_l3 lt_s3 le_s3 ne_r4 ne_l4 lt_s4 le_s4 ne_r5 ne_l5 lt_s5 le_s5 ne_r6 ne_l6 lt_s6 le_s6 ne_r7 ne_l7 lt_s7 le_s7
def intoV (T : Tab) (d : Dcl) : Tab := { T with names := T.names ++ [(d.name, ⟨d.kind, T.cells.length, d.n⟩)], cells := T.cells ++ [⟨T.words, d.n⟩], words := T.words + max d.n 1 }
/-- What a declaration makes of a table, or what is wrong with it. -/
def intoP (T : Tab) (d : Dcl) : Except Int Tab :=
  if d.kind = 1 then
    if 6 ≤ T.totals.length then .error 16 else if d.n < 1 ∨ 1000 < d.n then .error 24
    else .ok { T with names := T.names ++ [(d.name, ⟨d.kind, T.totals.length, 0⟩)], totals := T.totals ++ [d.n] }
  else if d.kind = 2 then
    if 8 ≤ T.semas.length then .error 16 else if d.n < 0 ∨ 1000 < d.n then .error 24
    else .ok { T with names := T.names ++ [(d.name, ⟨d.kind, T.semas.length, 0⟩)], semas := T.semas ++ [d.n] }
  else if 16 ≤ T.cells.length then .error 16
  else if d.kind = 3 then .ok { intoV T d with regions := T.regions ++ [(d.name, (T.regions.length : Int))] }
  else .ok (intoV T d)
def RetInto (H : Heap) (col : Nat → Nat) (tid : Nat) (res : Except Int Tab) (o : Out) (H' : Heap) : Prop :=
  match res with
  | .error c => o = .val (.int .i64 c) ∧ c ≠ 0 ∧ Same (fun _ => False) H H'
  | .ok T' => o = .val (.int .i64 0) ∧ (∃ col' : Nat → Nat, (∃ nid pid rid v1 v2 v3 v4 v5, RTab H' col' tid nid pid rid v1 v2 v3 v4 v5 T') ∧ ∀ i, i < H.n → col' i = col i) ∧ Same (fun i => col i ≠ 0) H H'
section
variable {K K' : Heap} {col col' : Nat → Nat} {v : Value}
theorem col_other {α : Type} (ρ : Rep α) {c c2 : Nat} {l : List α} (h : c2 ≠ c) (k : Same (fun i => col i = c) K K') (hc : ∀ i, i < K.n → col' i = col i) (g : ρ.G K (fun i => col i = c2) v l) : ρ.G K' (fun i => col' i = c2) v l :=
  ρ.G_move k (fun i hi hlt => ⟨by rw [hc i hlt]; exact hi, fun e => h (hi.symm.trans e)⟩) g
theorem col_set {α : Type} (ρ : Rep α) {c c2 i : Nat} {l : List α} (h : c2 ≠ c) (hi : col i = c) (hlt : i < K.n) (g : ρ.G K (fun j => col j = c2) v l) (o : AObj) : ρ.G (K.set i o) (fun j => col j = c2) v l :=
  ρ.G_move (Same.set (X := fun j => j = i) K hlt rfl o) (fun j hj _ => ⟨hj, fun e => h (by rw [← hj, e, hi])⟩) g
variable {tid nid pid rid : Nat} {v1 v2 v3 v4 v5 : Value} {T : Tab}
theorem RTab.set_names (h : RTab K col tid nid pid rid v1 v2 v3 v4 v5 T) (l : List (ByteArray × Nm)) : RTab (K.set nid (.map (ents Nm.v l))) col tid nid pid rid v1 v2 v3 v4 v5 { T with names := l } := by
  have lt := h.lt.2.1
  have tc := h.tc
  have nc := h.nc
  have pc := h.pc
  have rc := h.rc
  have k : Same (fun i => i = nid) K (K.set nid (.map (ents Nm.v l))) := Same.set (X := fun i => i = nid) K lt rfl _
  exact ⟨k.at h.obj (by simp) (fun e => by subst e; omega), tc, Heap.get_set_self _ _ lt, nc, k.at h.pm (by simp) (fun e => by subst e; omega), pc, k.at h.rm (by simp) (fun e => by subst e; omega), rc,
    col_set repLoc (c := 2) (by omega) nc lt h.g1 _, col_set repInt (c := 2) (by omega) nc lt h.g2 _, col_set repCel (c := 2) (by omega) nc lt h.g3 _, col_set repInt (c := 2) (by omega) nc lt h.g4 _, col_set repInt (c := 2) (by omega) nc lt h.g5 _, h.top⟩
theorem RTab.set_regions (h : RTab K col tid nid pid rid v1 v2 v3 v4 v5 T) (l : List (ByteArray × Int)) : RTab (K.set rid (.map (ents vI l))) col tid nid pid rid v1 v2 v3 v4 v5 { T with regions := l } := by
  have lt := h.lt.2.2.2
  have tc := h.tc
  have nc := h.nc
  have pc := h.pc
  have rc := h.rc
  have k : Same (fun i => i = rid) K (K.set rid (.map (ents vI l))) := Same.set (X := fun i => i = rid) K lt rfl _
  exact ⟨k.at h.obj (by simp) (fun e => by subst e; omega), tc, k.at h.nm (by simp) (fun e => by subst e; omega), nc, k.at h.pm (by simp) (fun e => by subst e; omega), pc, Heap.get_set_self _ _ lt, rc,
    col_set repLoc (c := 4) (by omega) rc lt h.g1 _, col_set repInt (c := 4) (by omega) rc lt h.g2 _, col_set repCel (c := 4) (by omega) rc lt h.g3 _, col_set repInt (c := 4) (by omega) rc lt h.g4 _, col_set repInt (c := 4) (by omega) rc lt h.g5 _, h.top⟩
/-- A list of a colour has grown; the table takes it up. -/
theorem RTab.step (h : RTab K col tid nid pid rid v1 v2 v3 v4 v5 T) {c : Nat} (hc : 5 ≤ c) (k : Same (fun i => col i = c) K K') (he : ∀ i, i < K.n → col' i = col i) (ht : ∀ i, K'.n ≤ i → col' i = 0) :
    (K'.get tid = .row true 0 1 [.map (some nid), .map (some pid), v1, v2, v3, v4, v5, .map (some rid), .int .i64 T.words] ∧ tid < K'.n) ∧
    ∀ {w1 w2 w3 w4 w5 : Value} {T' : Tab} (words : Int), T'.names = T.names → T'.procs = T.procs → T'.regions = T.regions → T'.words = words →
      repLoc.G K' (fun i => col' i = 5) w1 T'.locals → repInt.G K' (fun i => col' i = 6) w2 T'.params → repCel.G K' (fun i => col' i = 7) w3 T'.cells → repInt.G K' (fun i => col' i = 8) w4 T'.semas → repInt.G K' (fun i => col' i = 9) w5 T'.totals →
      RTab (K'.set tid (.row true 0 1 [.map (some nid), .map (some pid), w1, w2, w3, w4, w5, .map (some rid), .int .i64 words])) col' tid nid pid rid w1 w2 w3 w4 w5 T' := by
  have tc := h.tc
  have nc := h.nc
  have pc := h.pc
  have rc := h.rc
  obtain ⟨l1, l2, l3, l4⟩ := h.lt
  have e1 := he _ l1
  have e2 := he _ l2
  have e3 := he _ l3
  have e4 := he _ l4
  have nk := k.n
  have o := k.at h.obj (by simp) (by omega)
  refine ⟨⟨o, by omega⟩, ?_⟩
  intro w1 w2 w3 w4 w5 T' words h1 h2 h3 h4 g1 g2 g3 g4 g5
  have q : Same (fun i => i = tid) K' (K'.set tid (.row true 0 1 [.map (some nid), .map (some pid), w1, w2, w3, w4, w5, .map (some rid), .int .i64 words])) := Same.set (X := fun i => i = tid) K' (by omega) rfl _
  have t1 : col' tid = 1 := by omega
  subst h4
  exact ⟨Heap.get_set_self _ _ (by omega), t1, by rw [h1]; exact q.at (k.at h.nm (by simp) (by omega)) (by simp) (fun e => by subst e; omega), by omega, by rw [h2]; exact q.at (k.at h.pm (by simp) (by omega)) (by simp) (fun e => by subst e; omega), by omega,
    by rw [h3]; exact q.at (k.at h.rm (by simp) (by omega)) (by simp) (fun e => by subst e; omega), by omega, col_set repLoc (by omega) t1 (by omega) g1 _, col_set repInt (by omega) t1 (by omega) g2 _, col_set repCel (by omega) t1 (by omega) g3 _, col_set repInt (by omega) t1 (by omega) g4 _, col_set repInt (by omega) t1 (by omega) g5 _, ht⟩
end
theorem tf_int : TF Try.prog 61 1 := ⟨_, _, _, by simp, by simp, by simp; rfl, by omega, by simp; rfl, rfl, by omega, rfl⟩
theorem tf_cel : TF Try.prog 58 2 := ⟨_, _, _, by simp, by simp, by simp; rfl, by omega, by simp; rfl, rfl, by omega, rfl⟩
theorem tf_loc : TF Try.prog 103 1 := ⟨_, _, _, by simp, by simp, by simp; rfl, by omega, by simp; rfl, rfl, by omega, rfl⟩
theorem put_names {H : Heap} {nid : Nat} {l : List (ByteArray × Nm)} (h : H.get nid = .map (ents Nm.v l)) {x : ByteArray} (hx : findP x l = none) (a b c : Int) :
    exMapPut Try.prog 101 (.map (some nid)) (.string x) (.agg ⟨[.int .i64 a, .int .i64 b, .int .i64 c]⟩) H = some (H.set nid (.map (ents Nm.v (l ++ [(x, ⟨a, b, c⟩)])))) := by
  have f := put_ents Nm.v x ⟨a, b, c⟩ l hx
  simp only [Nm.v] at f
  simp [exMapPut, keyKind, h, f, Nm.v]
theorem put_ints {H : Heap} {nid : Nat} {l : List (ByteArray × Int)} (h : H.get nid = .map (ents vI l)) {x : ByteArray} (hx : findP x l = none) (a : Int) :
    exMapPut Try.prog 102 (.map (some nid)) (.string x) (.int .i64 a) H = some (H.set nid (.map (ents vI (l ++ [(x, a)])))) := by
  have f := put_ents vI x a l hx
  simp only [vI] at f
  simp [exMapPut, keyKind, h, f, vI]
end Go.Vm.Scope
namespace Go.Vm.Scope
open Go Go.Proofs Go.Vm.Parse
set_option maxRecDepth 100000
set_option maxHeartbeats 4000000
set_option linter.unusedSimpArgs false
set_option linter.unusedVariables false
attribute [local simp] repCells_succ writeAt rd_Fr toList_beq gpe gpn spe gse gsn ne_r0 ne_l0 le_s0 ne_r1 ne_l1 lt_s1 le_s1 ne_r2 ne_l2 lt_s2 le_s2 ne_r3 ne_l3 lt_s3 le_s3 ne_r4 ne_l4 lt_s4 le_s4 ne_r5 ne_l5 lt_s5 le_s5 ne_r6 ne_l6 lt_s6 le_s6 ne_r7 ne_l7 lt_s7 le_s7
theorem q_class : quiet Try.prog (drawN Try.f128 0) = true := by decide +kernel
theorem pl_class : planOf Try.prog (drawN Try.f128 1) = some [(some (0, 2)), (some (0, 1)), (some (0, 1)), (some (0, 1)), (some (0, 1)), none, none, none, none, none, none, none] := by decide +kernel
theorem q_sema : quiet Try.prog (drawN Try.f129 0) = true := by decide +kernel
theorem pl_sema : planOf Try.prog (drawN Try.f129 1) = some [(some (0, 2)), (some (0, 1)), (some (0, 1)), (some (0, 1)), (some (0, 1)), none, none, none, none, none, none, none] := by decide +kernel
section
variable {E : Hooks} (hE : Plain E) {H : Heap} {col : Nat → Nat} {tid nid pid rid : Nat} {v1 v2 v3 v4 v5 : Value} {T : Tab}
include hE
theorem class_run (h : RTab H col tid nid pid rid v1 v2 v3 v4 v5 T) (d : Dcl) (hk : d.kind = 1) (hn : findP d.name T.names = none) (hlen : T.totals.length ≤ 100) :
    Gives ((run Try.prog E).call 128 [.agg #[], .pointer (some ⟨tid, 0, none⟩), .agg ⟨dsc d.kind d.at_ d.name d.n⟩] H) (RetInto H col tid (intoP T d)) := by
  obtain ⟨dk, da, dx, dn⟩ := d
  simp only at hk hn ⊢
  subst hk
  have hp := (h.keep (Same.push (fun _ => False) _ (.unit 145)) (fun _ h => h.elim)).keep (Same.push (fun _ => False) _ (.row true 0 1 (dsc 1 da dx dn))) (fun _ h => h.elim)
  have kp : Same (fun _ => False) H ((H.push (.unit 145)).push (.row true 0 1 (dsc 1 da dx dn))) := (Same.push _ _ _).then_push _
  obtain ⟨b, rfl⟩ := repInt.G_slice h.g5
  have g0 := hp.obj
  have lt := h.lt
  rw [c_class hE, callB, bodyOf]
  unfold intoP
  rw [if_pos (show (1 : Int) = 1 from rfl)]
  simp only [dsc] at g0 hp kp ⊢
  by_cases c1 : 6 ≤ T.totals.length
  · rw [if_pos c1]
    have c1' : (6 : Int) ≤ T.totals.length := by omega
    simp [Try.f128, g0, c1, c1']
    exact ⟨rfl, by omega, kp⟩
  rw [if_neg c1]
  have c1' : ¬ (6 : Int) ≤ T.totals.length := by omega
  by_cases c2 : dn < 1 ∨ 1000 < dn
  · rw [if_pos c2]
    by_cases c3 : dn < 1
    · simp [Try.f128, g0, c1, c1', c3]
      exact ⟨rfl, by omega, kp⟩
    · have c4 : 1000 < dn := c2.resolve_left c3
      simp [Try.f128, g0, c1, c1', c3, c4]
      exact ⟨rfl, by omega, kp⟩
  rw [if_neg c2]
  have c3 : ¬ dn < 1 := fun e => c2 (.inl e)
  have c4 : ¬ 1000 < dn := fun e => c2 (.inr e)
  have f1 := put_names hp.nm hn 1 T.totals.length 0
  have h2 := hp.set_names (T.names ++ [(dx, ⟨1, T.totals.length, 0⟩)])
  have g2 := h2.obj
  dsimp only at g2
  have l2 := h2.lt
  generalize hK : ((H.push (.unit 145)).push (.row true 0 1 [.int .i64 1, .int .i64 da, .string dx, .int .i64 dn])).set nid (.map (ents Nm.v (T.names ++ [(dx, ⟨1, T.totals.length, 0⟩)]))) = K at *
  have gd : K.get (H.n + 1) = .row true 0 1 [.int .i64 1, .int .i64 da, .string dx, .int .i64 dn] := by rw [← hK, Heap.get_set _ _ _ (by simp; omega), if_neg (by omega)]; exact Heap.get_push_self _ _
  have nK : K.n = H.n + 2 := by rw [← hK]; rfl
  obtain ⟨b', K', col', eA, gA, kA, he, ht⟩ := col_app repInt tf_int (c := 9) (l := T.totals) (by omega) h2.top h2.g5 (by omega) (a := dn) (cs := [.int .i64 dn]) rfl
  have st := h2.step (by omega) kA he ht
  have gA' := st.1.1
  dsimp only at gA'
  have tA := st.1.2
  have fin := st.2 (w1 := v1) (w2 := v2) (w3 := v3) (w4 := v4) (w5 := .slice b' (T.totals.length + 1) (T.totals.length + 1)) (T' := { T with names := T.names ++ [(dx, ⟨1, T.totals.length, 0⟩)], totals := T.totals ++ [dn] }) T.words rfl rfl rfl rfl
    (col_other repLoc (by omega) kA he h2.g1) (col_other repInt (by omega) kA he h2.g2) (col_other repCel (by omega) kA he h2.g3) (col_other repInt (by omega) kA he h2.g4) gA
  simp only [repInt] at eA
  simp [Try.f128, g0, c1, c1', c3, c4]
  refine region_quiet (by exact q_class) ?_
  simp [g0, f1, hK]
  refine region_plan (by exact pl_class) ?_
  have nd : H.n + 1 < K.n := by omega
  simp [g2, gd, nd, l2, eA, gA', tA]
  have k1 : Same (fun i => col i ≠ 0) H K := by rw [← hK]; exact (Same.none kp).then_set (by simp; omega) (.inl (by have := h.nc; omega)) _
  exact ⟨rfl, ⟨col', ⟨_, _, _, _, _, _, _, _, fin⟩, fun i hi => he i (by omega)⟩, (k1.then kA (fun i hi => .inl (by omega))).then_set tA (.inl (by have := h.tc; omega)) _⟩
theorem sema_run (h : RTab H col tid nid pid rid v1 v2 v3 v4 v5 T) (d : Dcl) (hk : d.kind = 2) (hn : findP d.name T.names = none) (hlen : T.semas.length ≤ 100) :
    Gives ((run Try.prog E).call 129 [.agg #[], .pointer (some ⟨tid, 0, none⟩), .agg ⟨dsc d.kind d.at_ d.name d.n⟩] H) (RetInto H col tid (intoP T d)) := by
  obtain ⟨dk, da, dx, dn⟩ := d
  simp only at hk hn ⊢
  subst hk
  have hp := (h.keep (Same.push (fun _ => False) _ (.unit 146)) (fun _ h => h.elim)).keep (Same.push (fun _ => False) _ (.row true 0 1 (dsc 2 da dx dn))) (fun _ h => h.elim)
  have kp : Same (fun _ => False) H ((H.push (.unit 146)).push (.row true 0 1 (dsc 2 da dx dn))) := (Same.push _ _ _).then_push _
  obtain ⟨b, rfl⟩ := repInt.G_slice h.g4
  have g0 := hp.obj
  have lt := h.lt
  rw [c_sema hE, callB, bodyOf]
  unfold intoP
  rw [if_neg (show ¬ (2 : Int) = 1 by omega), if_pos (show (2 : Int) = 2 from rfl)]
  simp only [dsc] at g0 hp kp ⊢
  by_cases c1 : 8 ≤ T.semas.length
  · rw [if_pos c1]
    have c1' : (8 : Int) ≤ T.semas.length := by omega
    simp [Try.f129, g0, c1, c1']
    exact ⟨rfl, by omega, kp⟩
  rw [if_neg c1]
  have c1' : ¬ (8 : Int) ≤ T.semas.length := by omega
  by_cases c2 : dn < 0 ∨ 1000 < dn
  · rw [if_pos c2]
    by_cases c3 : dn < 0
    · simp [Try.f129, g0, c1, c1', c3]
      exact ⟨rfl, by omega, kp⟩
    · have c4 : 1000 < dn := c2.resolve_left c3
      simp [Try.f129, g0, c1, c1', c3, c4]
      exact ⟨rfl, by omega, kp⟩
  rw [if_neg c2]
  have c3 : ¬ dn < 0 := fun e => c2 (.inl e)
  have c4 : ¬ 1000 < dn := fun e => c2 (.inr e)
  have f1 := put_names hp.nm hn 2 T.semas.length 0
  have h2 := hp.set_names (T.names ++ [(dx, ⟨2, T.semas.length, 0⟩)])
  have g2 := h2.obj
  dsimp only at g2
  have l2 := h2.lt
  generalize hK : ((H.push (.unit 146)).push (.row true 0 1 [.int .i64 2, .int .i64 da, .string dx, .int .i64 dn])).set nid (.map (ents Nm.v (T.names ++ [(dx, ⟨2, T.semas.length, 0⟩)]))) = K at *
  have gd : K.get (H.n + 1) = .row true 0 1 [.int .i64 2, .int .i64 da, .string dx, .int .i64 dn] := by rw [← hK, Heap.get_set _ _ _ (by simp; omega), if_neg (by omega)]; exact Heap.get_push_self _ _
  have nK : K.n = H.n + 2 := by rw [← hK]; rfl
  obtain ⟨b', K', col', eA, gA, kA, he, ht⟩ := col_app repInt tf_int (c := 8) (l := T.semas) (by omega) h2.top h2.g4 (by omega) (a := dn) (cs := [.int .i64 dn]) rfl
  have st := h2.step (by omega) kA he ht
  have gA' := st.1.1
  dsimp only at gA'
  have tA := st.1.2
  have fin := st.2 (w1 := v1) (w2 := v2) (w3 := v3) (w4 := .slice b' (T.semas.length + 1) (T.semas.length + 1)) (w5 := v5) (T' := { T with names := T.names ++ [(dx, ⟨2, T.semas.length, 0⟩)], semas := T.semas ++ [dn] }) T.words rfl rfl rfl rfl
    (col_other repLoc (by omega) kA he h2.g1) (col_other repInt (by omega) kA he h2.g2) (col_other repCel (by omega) kA he h2.g3) gA (col_other repInt (by omega) kA he h2.g5)
  simp only [repInt] at eA
  simp [Try.f129, g0, c1, c1', c3, c4]
  refine region_quiet (by exact q_sema) ?_
  simp [g0, f1, hK]
  refine region_plan (by exact pl_sema) ?_
  have nd : H.n + 1 < K.n := by omega
  simp [g2, gd, nd, l2, eA, gA', tA]
  have k1 : Same (fun i => col i ≠ 0) H K := by rw [← hK]; exact (Same.none kp).then_set (by simp; omega) (.inl (by have := h.nc; omega)) _
  exact ⟨rfl, ⟨col', ⟨_, _, _, _, _, _, _, _, fin⟩, fun i hi => he i (by omega)⟩, (k1.then kA (fun i hi => .inl (by omega))).then_set tA (.inl (by have := h.tc; omega)) _⟩
end
end Go.Vm.Scope
namespace Go.Vm.Scope
open Go Go.Proofs Go.Vm.Parse
set_option maxRecDepth 100000
set_option maxHeartbeats 4000000
set_option linter.unusedSimpArgs false
set_option linter.unusedVariables false
attribute [local simp] repCells_succ writeAt rd_Fr toList_beq gpe gpn spe gse gsn ne_r0 ne_l0 le_s0 ne_r1 ne_l1 lt_s1 le_s1 ne_r2 ne_l2 lt_s2 le_s2 ne_r3 ne_l3 lt_s3 le_s3 ne_r4 ne_l4 lt_s4 le_s4 ne_r5 ne_l5 lt_s5 le_s5 ne_r6 ne_l6 lt_s6 le_s6 ne_r7 ne_l7 lt_s7 le_s7
theorem q_var0 : quiet Try.prog (drawN Try.f130 0) = true := by decide +kernel
theorem pl_var : planOf Try.prog (drawN Try.f130 1) = some [(some (0, 2)), (some (0, 1)), (some (0, 1)), (some (0, 1)), (some (0, 1)), none, none, none, none, none, none, none, none, none, none, none, none] := by decide +kernel
theorem q_var2 : quiet Try.prog (drawN Try.f130 2) = true := by decide +kernel
theorem q_sha0 : quiet Try.prog (drawN Try.f131 0) = true := by decide +kernel
theorem unit_field (i : Nat) : unitF Try.prog 149 0 i 0 (.unit 149) = some (.pointer (some ⟨i, 0, none⟩)) := by
  have h : ∀ P : Program, ∀ fl : Field, ∀ fs : Array Field, P.underlying 149 = some (.struct fs) → fs[0]? = some fl → sizeT P 149 = some 0 → fl.offset = 0 → fl.byteOffset = 0 → unitF P 149 0 i 0 (.unit 149) = some (.pointer (some ⟨i, 0, none⟩)) := by
    intro P fl fs h1 h2 h3 h4 h5
    simp only [unitF, h1, h2, unitField, h3, h4, h5]
    rfl
  exact h Try.prog _ _ (by simp; rfl) rfl (by simp) rfl rfl
theorem len_ints {H : Heap} {nid : Nat} {l : List (ByteArray × Int)} (h : H.get nid = .map (ents vI l)) : exLen Try.prog [102] (.map (some nid)) H = some (.int .i64 l.length) := by
  simp [exLen, h, len_ents]
/-- What a variable makes of a table. -/
def varP (T : Tab) (d : Dcl) : Except Int Tab := if 16 ≤ T.cells.length then .error 16 else .ok (intoV T d)
section
variable {E : Hooks} (hE : Plain E) {H : Heap} {col : Nat → Nat} {tid nid pid rid : Nat} {v1 v2 v3 v4 v5 : Value} {T : Tab}
include hE
theorem variable_run (h : RTab H col tid nid pid rid v1 v2 v3 v4 v5 T) (d : Dcl) (hn : findP d.name T.names = none) (hw1 : 0 ≤ T.words) (hw2 : T.words + max d.n 1 ≤ 9223372036854775807) :
    Gives ((run Try.prog E).call 130 [.agg #[], .pointer (some ⟨tid, 0, none⟩), .agg ⟨dsc d.kind d.at_ d.name d.n⟩] H) (RetInto H col tid (varP T d)) := by
  obtain ⟨dk, da, dx, dn⟩ := d
  simp only at hn hw2 ⊢
  have hp := (h.keep (Same.push (fun _ => False) _ (.unit 147)) (fun _ h => h.elim)).keep (Same.push (fun _ => False) _ (.row true 0 1 (dsc dk da dx dn))) (fun _ h => h.elim)
  have kp : Same (fun _ => False) H ((H.push (.unit 147)).push (.row true 0 1 (dsc dk da dx dn))) := (Same.push _ _ _).then_push _
  obtain ⟨b, rfl⟩ := repCel.G_slice h.g3
  have g0 := hp.obj
  have lt := h.lt
  rw [c_variable hE, callB, bodyOf]
  unfold varP
  simp only [dsc] at g0 hp kp ⊢
  by_cases c1 : 16 ≤ T.cells.length
  · rw [if_pos c1]
    have c1' : (16 : Int) ≤ T.cells.length := by omega
    simp [Try.f130, g0, c1, c1']
    exact ⟨rfl, by omega, kp⟩
  rw [if_neg c1]
  have c1' : ¬ (16 : Int) ≤ T.cells.length := by omega
  have f1 := put_names hp.nm hn dk T.cells.length dn
  have h2 := hp.set_names (T.names ++ [(dx, ⟨dk, T.cells.length, dn⟩)])
  have g2 := h2.obj
  dsimp only at g2
  have l2 := h2.lt
  generalize hK : ((H.push (.unit 147)).push (.row true 0 1 [.int .i64 dk, .int .i64 da, .string dx, .int .i64 dn])).set nid (.map (ents Nm.v (T.names ++ [(dx, ⟨dk, T.cells.length, dn⟩)]))) = K at *
  have gd : K.get (H.n + 1) = .row true 0 1 [.int .i64 dk, .int .i64 da, .string dx, .int .i64 dn] := by rw [← hK, Heap.get_set _ _ _ (by simp; omega), if_neg (by omega)]; exact Heap.get_push_self _ _
  have nK : K.n = H.n + 2 := by rw [← hK]; rfl
  obtain ⟨b', K', col', eA, gA, kA, he, ht⟩ := col_app repCel tf_cel (c := 7) (l := T.cells) (by omega) h2.top h2.g3 (by omega) (a := ⟨T.words, dn⟩) (cs := [.int .i64 T.words, .int .i64 dn]) rfl
  have st := h2.step (by omega) kA he ht
  have gA' := st.1.1
  dsimp only at gA'
  have tA := st.1.2
  have h0 : col (H.n + 1) = 0 := h.top _ (by omega)
  have gd' := kA.at gd (by simp) (by omega)
  have nA := kA.n
  have fin := st.2 (w1 := v1) (w2 := v2) (w3 := .slice b' (T.cells.length + 1) (T.cells.length + 1)) (w4 := v4) (w5 := v5) (T' := intoV T ⟨dk, da, dx, dn⟩) (T.words + max dn 1) rfl rfl rfl rfl
    (col_other repLoc (by omega) kA he h2.g1) (col_other repInt (by omega) kA he h2.g2) gA (col_other repInt (by omega) kA he h2.g4) (col_other repInt (by omega) kA he h2.g5)
  have hw := wrap64 (T.words + max dn 1) (by omega) (by omega)
  simp only [repCel] at eA
  simp [Try.f130, g0, c1, c1']
  refine region_quiet (by exact q_var0) ?_
  simp [g0, f1, hK]
  refine region_plan (by exact pl_var) ?_
  have nd : H.n + 1 < K.n := by omega
  have nd' : H.n + 1 < K'.n := by omega
  simp [g2, gd, nd, l2, eA, gA', tA]
  refine region_quiet (by exact q_var2) ?_
  simp [builtin_max, gA', tA, gd', nd', show ¬ H.n + 1 = tid by omega, hw, Heap.set_set]
  have k1 : Same (fun i => col i ≠ 0) H K := by rw [← hK]; exact (Same.none kp).then_set (by simp; omega) (.inl (by have := h.nc; omega)) _
  exact ⟨rfl, ⟨col', ⟨_, _, _, _, _, _, _, _, fin⟩, fun i hi => he i (by omega)⟩, (k1.then kA (fun i hi => .inl (by omega))).then_set tA (.inl (by have := h.tc; omega)) _⟩
theorem shared_run (h : RTab H col tid nid pid rid v1 v2 v3 v4 v5 T) (d : Dcl) (hn : findP d.name T.names = none) (hr : findP d.name T.regions = none) (hw1 : 0 ≤ T.words) (hw2 : T.words + max d.n 1 ≤ 9223372036854775807) :
    Gives ((run Try.prog E).call 131 [.agg #[], .pointer (some ⟨tid, 0, none⟩), .agg ⟨dsc d.kind d.at_ d.name d.n⟩] H)
      (RetInto H col tid (if 16 ≤ T.cells.length then .error 16 else .ok { intoV T d with regions := T.regions ++ [(d.name, (T.regions.length : Int))] })) := by
  have hp := (h.keep (Same.push (fun _ => False) _ (.unit 149)) (fun _ h => h.elim)).keep (Same.push (fun _ => False) _ (.row true 0 1 (dsc d.kind d.at_ d.name d.n))) (fun _ h => h.elim)
  have kp : Same (fun _ => False) H ((H.push (.unit 149)).push (.row true 0 1 (dsc d.kind d.at_ d.name d.n))) := (Same.push _ _ _).then_push _
  obtain ⟨o, K, e, hR⟩ := variable_run hE hp d hn hw1 hw2
  rw [c_shared hE, callB, bodyOf]
  unfold varP at hR
  have lt := h.lt
  by_cases c1 : 16 ≤ T.cells.length
  · rw [if_pos c1] at hR ⊢
    obtain ⟨rfl, _, k⟩ := hR
    simp only [dsc] at e kp k
    simp [Try.f131, dsc, unit_field, e]
    exact ⟨rfl, by omega, kp.trans k⟩
  · rw [if_neg c1] at hR ⊢
    obtain ⟨rfl, ⟨col', ⟨nid', pid', rid', w1, w2, w3, w4, w5, hT⟩, he⟩, k⟩ := hR
    have h0 : col (H.n + 1) = 0 := h.top _ (by omega)
    have gd : K.get (H.n + 1) = .row true 0 1 (dsc d.kind d.at_ d.name d.n) := k.at (Heap.get_push_self _ _) (by simp) (fun x => x h0)
    have g0 := hT.obj
    have lt' := hT.lt
    have f := put_ints hT.rm (x := d.name) hr T.regions.length
    have h3 := hT.set_regions (T.regions ++ [(d.name, (T.regions.length : Int))])
    have grm := hT.rm
    have hl := len_ints (l := T.regions) grm
    have nk := k.n
    simp at nk
    have ndd : H.n + 1 < K.n := by omega
    have hreg : (intoV T d).regions = T.regions := rfl
    simp only [hreg] at grm f
    simp only [dsc] at e gd kp k
    simp [Try.f131, dsc, unit_field, e]
    refine region_quiet (by exact q_sha0) ?_
    simp [g0, gd, hl, f, lt', ndd]
    have rc' := hT.rc
    refine ⟨rfl, ⟨col', ⟨_, _, _, _, _, _, _, _, h3⟩, fun i hi => he i (by simp; omega)⟩, ?_⟩
    refine ((Same.none kp).trans k).then_set (by omega) ?_ _
    by_cases hlt : rid' < H.n
    · have := he rid' (by simp; omega)
      exact .inl (by omega)
    · exact .inr (by omega)
/-- Any kind's 'into', by way of the interface. -/
theorem into_run (h : RTab H col tid nid pid rid v1 v2 v3 v4 v5 T) (d : Dcl) (hn : findP d.name T.names = none) (hr : findP d.name T.regions = none) (hw1 : 0 ≤ T.words) (hw2 : d.kind ≠ 1 → d.kind ≠ 2 → T.words + max d.n 1 ≤ 9223372036854775807) (hl1 : T.totals.length ≤ 100) (hl2 : T.semas.length ≤ 100) :
    Gives (callI Try.prog (run Try.prog E).call (some (kindV d.kind)) "signalbox/scope.into" [.pointer (some ⟨tid, 0, none⟩), .agg ⟨dsc d.kind d.at_ d.name d.n⟩] H) (RetInto H col tid (intoP T d)) := by
  by_cases h1 : d.kind = 1
  · rw [show kindV d.kind = .iface 145 (.agg #[]) by unfold kindV; rw [if_pos h1]]
    simp only [callI, m_class]
    exact class_run hE h d h1 hn hl1
  · by_cases h2 : d.kind = 2
    · rw [show kindV d.kind = .iface 146 (.agg #[]) by unfold kindV; rw [if_neg h1, if_pos h2]]
      simp only [callI, m_sema]
      exact sema_run hE h d h2 hn hl2
    · by_cases h3 : d.kind = 3
      · rw [show kindV d.kind = .iface 149 (.agg #[]) by unfold kindV; rw [if_neg h1, if_neg h2, if_pos h3]]
        simp only [callI, m_shared]
        have := shared_run hE h d hn hr hw1 (hw2 h1 h2)
        unfold intoP
        rw [if_neg h1, if_neg h2, if_pos h3]
        exact this
      · rw [show kindV d.kind = .iface 147 (.agg #[]) by unfold kindV; rw [if_neg h1, if_neg h2, if_neg h3]]
        simp only [callI, m_variable]
        have := variable_run hE h d hn hw1 (hw2 h1 h2)
        unfold intoP
        rw [if_neg h1, if_neg h2, if_neg h3]
        exact this
end
end Go.Vm.Scope
