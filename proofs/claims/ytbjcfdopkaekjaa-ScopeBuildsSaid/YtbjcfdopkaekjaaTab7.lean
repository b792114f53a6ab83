/- What is defined and proved: 'Build' in plain words; what a table always is. What is proved: 'Build', if its 'proc' does what it must. -/
import Derived.Test.YtbjcfdopkaekjaaTab5
import Derived.Test.YtbjcfdopkaekjaaCut
namespace Go.Vm
theorem Rep.L_get {α : Type} (ρ : Rep α) {H : Heap} {S : Nat → Prop} : ∀ {l : List α} {cs : List Value} (k : Nat) (hk : k < l.length), ρ.L H S l cs → ρ.R H S l[k] ((cs.drop (k * ρ.k)).take ρ.k)
  | [], _, k, hk, _ => absurd hk (Nat.not_lt_zero _)
  | a :: l, cs, 0, hk, h => by
    obtain ⟨c1, c2, rfl, h1, h2⟩ := h
    have hl := ρ.len h1
    simp only [Nat.zero_mul, List.drop_zero, List.getElem_cons_zero]
    rw [← hl, List.take_left']
    · exact h1
    · rfl
  | a :: l, cs, k + 1, hk, h => by
    obtain ⟨c1, c2, rfl, h1, h2⟩ := h
    have hl := ρ.len h1
    have e : (k + 1) * ρ.k = c1.length + k * ρ.k := by rw [hl, Nat.add_mul]; omega
    rw [List.getElem_cons_succ, e, List.drop_append, List.drop_eq_nil_of_le (by omega), List.nil_append, show c1.length + k * ρ.k - c1.length = k * ρ.k by omega]
    exact Rep.L_get ρ k (by simpa using hk) h2
end Go.Vm
namespace Go.Vm.Scope
open Go Go.Proofs Go.Vm.Parse
set_option maxRecDepth 100000
set_option linter.unusedSimpArgs false
set_option linter.unusedVariables false
def declsB (T : Tab) : List Dcl → Except (Int × Int) Tab
  | [] => .ok T
  | d :: l => if knownP T d.name = true then .error (17, d.at_) else match intoP T d with
    | .error c => .error (c, d.at_)
    | .ok T' => declsB T' l
def procsB (one : Tab → Prc → Except (Int × Int) Tab) (T : Tab) : List Prc → Except (Int × Int) Tab
  | [] => .ok T
  | p :: l => match one T p with
    | .error c => .error c
    | .ok T' => procsB one T' l
def tab0 : Tab := ⟨[], [], [[]], [0], [], [], [], [], 0⟩
def buildP (one : Tab → Prc → Except (Int × Int) Tab) (s : Src) : Except (Int × Int) Tab :=
  match declsB tab0 s.decls with
  | .error c => .error c
  | .ok T => procsB one T s.procs
/-- What a table always is. -/
structure TOK (T : Tab) : Prop where
  t : T.totals.length ≤ 6
  s : T.semas.length ≤ 8
  c : T.cells.length ≤ 16
  w0 : 0 ≤ T.words
  w1 : T.words ≤ T.cells.length * 1099511627776
  r : ∀ x, findP x T.names = none → findP x T.regions = none
  q : T.procs.length ≤ 12
  l : T.locals.length = T.procs.length + 1
  p : T.params.length = T.procs.length + 1
theorem tab0_ok : TOK tab0 := ⟨by simp [tab0], by simp [tab0], by simp [tab0], by simp [tab0], by simp [tab0], fun x _ => rfl, by simp [tab0], by simp [tab0], by simp [tab0]⟩
theorem find_snoc {β : Type} (x y : ByteArray) (b : β) : ∀ l : List (ByteArray × β), findP x (l ++ [(y, b)]) = none ↔ findP x l = none ∧ ¬ y = x
  | [] => by simp [findP]
  | e :: l => by
    simp only [List.cons_append, findP]
    by_cases h : e.1 = x
    · simp [h]
    · simp only [if_neg h]; exact find_snoc x y b l
theorem known_no {T : Tab} {x : ByteArray} (h : knownP T x = false) : findP x T.names = none ∧ findP x T.procs = none := by
  unfold knownP at h
  simp only [Bool.or_eq_false_iff, Option.isSome_eq_false_iff, Option.isNone_iff_eq_none] at h
  exact h
theorem TOK.into {T T' : Tab} {d : Dcl} (h : TOK T) (hd : d.kind ≠ 1 → d.kind ≠ 2 → d.n ≤ 1099511627776) (e : intoP T d = .ok T') : TOK T' := by
  obtain ⟨h1, h2, h3, h4, h5, h6, h7, h8, h9⟩ := h
  have hv : d.kind ≠ 1 → d.kind ≠ 2 → ¬ 16 ≤ T.cells.length → TOK (intoV T d) := fun k1 k2 hc => have hm : max d.n 1 ≤ 1099511627776 ∧ 1 ≤ max d.n 1 := by have := hd k1 k2; omega
    ⟨h1, h2, by simp [intoV]; omega, by simp only [intoV]; omega, by simp only [intoV, List.length_append, List.length_cons, List.length_nil]; omega, fun x hx => h6 x ((find_snoc _ _ _ _).1 hx).1, h7, h8, h9⟩
  unfold intoP at e
  split at e
  · split at e
    · cases e
    · split at e
      · cases e
      · cases e
        exact ⟨by simp; omega, h2, h3, h4, h5, fun x hx => h6 x ((find_snoc _ _ _ _).1 hx).1, h7, h8, h9⟩
  · split at e
    · split at e
      · cases e
      · split at e
        · cases e
        · cases e
          exact ⟨h1, by simp; omega, h3, h4, h5, fun x hx => h6 x ((find_snoc _ _ _ _).1 hx).1, h7, h8, h9⟩
    · rename_i k1 k2
      split at e
      · cases e
      · rename_i hc
        split at e
        · cases e
          obtain ⟨a1, a2, a3, a4, a5, a6, a7, a8, a9⟩ := hv k1 k2 hc
          exact ⟨a1, a2, a3, a4, a5, fun x hx => (find_snoc _ _ _ _).2 ⟨a6 x hx, ((find_snoc _ _ _ _).1 hx).2⟩, a7, a8, a9⟩
        · cases e; exact hv k1 k2 hc
end Go.Vm.Scope
namespace Go.Vm.Scope
open Go Go.Proofs Go.Vm.Parse
set_option maxRecDepth 100000
set_option maxHeartbeats 4000000
set_option linter.unusedSimpArgs false
set_option linter.unusedVariables false
attribute [local simp] repCells_succ writeAt rd_Fr toList_beq gpe gpn spe gse gsn ne_r0 ne_l0 le_s0 ne_r1 ne_l1 lt_s1 le_s1 ne_r2 ne_l2 lt_s2 le_s2 ne_r3 ne_l3 lt_s3 le_s3 ne_r4 ne_l4 lt_s4 le_s4 ne_r5 ne_l5 lt_s5 le_s5 ne_r6 ne_l6 lt_s6 le_s6 ne_r7 ne_l7 lt_s7 le_s7
theorem q_bld0 : quiet Try.prog (drawN Try.f14 0) = true := by decide +kernel
theorem pl_bld1 : planOf Try.prog (drawN Try.f14 1) = some [none, none, none, (some (0, 1)), (some (0, 1)), none, none] := by decide +kernel
theorem q_bld2 : quiet Try.prog (drawN Try.f14 2) = true := by decide +kernel
theorem q_bld3 : quiet Try.prog (drawN Try.f14 3) = true := by decide +kernel
/-- What a table's 'proc' must do. -/
def TProcOK (E : Hooks) (one : Tab → Prc → Except (Int × Int) Tab) : Prop := ∀ (T : Tab) (p : Prc) (col : Nat → Nat) (tid nid pid rid : Nat) (v1 v2 v3 v4 v5 : Value) (cs : List Value) (K : Heap), RTab K col tid nid pid rid v1 v2 v3 v4 v5 T → TOK T → p.params.length + p.vars.length ≤ 100000 → repPrc.R K (fun i => col i = 0) p cs →
  Gives ((run Try.prog E).call 48 [.pointer (some ⟨tid, 0, none⟩), .agg ⟨cs⟩] K) fun o K' => Same (fun i => col i ≠ 0) K K' ∧ match one T p with
    | .error (c, a) => o = .val (.agg ⟨[.int .i64 c, .int .i64 a]⟩) ∧ c ≠ 0
    | .ok T' => o = .val (.agg ⟨[.int .i64 0, .int .i64 0]⟩) ∧ TOK T' ∧ ∃ col' : Nat → Nat, (∃ nid pid rid v1 v2 v3 v4 v5, RTab K' col' tid nid pid rid v1 v2 v3 v4 v5 T') ∧ ∀ i, i < K.n → col' i = col i
/-- What 'Build' must give. -/
def RetB (H : Heap) (res : Except (Int × Int) Tab) (o : Out) (H' : Heap) : Prop :=
  Same (fun _ => False) H H' ∧ match res with
  | .error (c, a) => o = .val (.tuple #[.pointer none, .agg ⟨[.int .i64 c, .int .i64 a]⟩])
  | .ok T => ∃ (col : Nat → Nat) (tid nid pid rid : Nat) (v1 v2 v3 v4 v5 : Value), o = .val (.tuple #[.pointer (some ⟨tid, 0, none⟩), .agg ⟨[.int .i64 0, .int .i64 0]⟩]) ∧ RTab H' col tid nid pid rid v1 v2 v3 v4 v5 T ∧ (∀ i, i < H.n → col i = 0)
/-- Where Build stands, with its table. -/
structure BAt (H K : Heap) (sc : List Value) (col : Nat → Nat) (T : Tab) : Prop where
  same : Same (fun _ => False) H K
  box : K.get H.n = .row true 0 1 sc
  res : K.get (H.n + 1) = .row true 0 1 [.int .i64 0, .int .i64 0]
  tab : ∃ nid pid rid v1 v2 v3 v4 v5, RTab K col (H.n + 7) nid pid rid v1 v2 v3 v4 v5 T
  zero : ∀ i, i ≤ H.n + 1 → col i = 0
  ok : TOK T
theorem BAt.keep {H K K' : Heap} {sc : List Value} {col : Nat → Nat} {T : Tab} {X : Nat → Prop} (h : BAt H K sc col T) (k : Same X K K') (hx : ∀ i, X i → col i = 0 ∧ H.n + 1 < i) : BAt H K' sc col T := by
  obtain ⟨nid, pid, rid, v1, v2, v3, v4, v5, ht⟩ := h.tab
  exact ⟨h.same.then k (fun i hi => .inr (by have := (hx i hi).2; omega)), k.at h.box (by simp) (fun e => by have := (hx _ e).2; omega), k.at h.res (by simp) (fun e => by have := (hx _ e).2; omega), ⟨_, _, _, _, _, _, _, _, ht.keep k (fun i hi => (hx i hi).1)⟩, h.zero, h.ok⟩
def DeclI (H : Heap) (sc : List Value) (ds : List Dcl) (res : Except (Int × Int) Tab) (m : Nat) (t : List Value) (K : Heap) : Prop :=
  ∃ k T col, k ≤ ds.length ∧ m = ds.length - k ∧ rd t 21 = .int .i64 k ∧ declsB T (ds.drop k) = res ∧ BAt H K sc col T
def DeclJ (H : Heap) (sc : List Value) (res : Except (Int × Int) Tab) (t : List Value) (K : Heap) : Prop :=
  ∃ T col, res = .ok T ∧ BAt H K sc col T ∧ t.length = 62 ∧ rd t 1 = .pointer (some ⟨H.n, 0, none⟩) ∧ rd t 3 = .pointer (some ⟨H.n + 1, 0, none⟩) ∧ rd t 4 = .pointer (some ⟨H.n + 7, 0, none⟩)
def ProcI (one : Tab → Prc → Except (Int × Int) Tab) (H : Heap) (sc : List Value) (ps : List Prc) (res : Except (Int × Int) Tab) (m : Nat) (t : List Value) (K : Heap) : Prop :=
  ∃ k T col, k ≤ ps.length ∧ m = ps.length - k ∧ rd t 48 = .int .i64 k ∧ procsB one T (ps.drop k) = res ∧ BAt H K sc col T
theorem prc_slices {H : Heap} {S : Nat → Prop} {p : Prc} {cs : List Value} (h : RPrc H S p cs) : ∃ a x a1 a2 a3 b1 b2 b3 c1 c2 c3, cs = pc5 a x (.slice a1 a2 a3) (.slice b1 b2 b3) (.slice c1 c2 c3) := by
  obtain ⟨v1, v2, v3, rfl, h1, h2, h3⟩ := h
  obtain ⟨b1, rfl⟩ := repIdn.G_slice h1
  obtain ⟨b2, rfl⟩ := repIdn.G_slice h2
  obtain ⟨b3, rfl⟩ := repStm.G_slice h3
  exact ⟨_, _, _, _, _, _, _, _, _, _, _, rfl⟩
section
variable {E : Hooks} (hE : Plain E)
include hE
theorem build_run {one : Tab → Prc → Except (Int × Int) Tab} {H : Heap} {s : Src} {sc : List Value} (hP : s.procs = [] ∨ TProcOK E one) (hs : RSrc H (fun i => i < H.n) s sc) (hn : ∀ d ∈ s.decls, d.kind ≠ 1 → d.kind ≠ 2 → d.n ≤ 1099511627776) (hq : ∀ p ∈ s.procs, p.params.length + p.vars.length ≤ 100000) (hl : s.decls.length ≤ 100000) (hl2 : s.procs.length ≤ 100000) :
    Gives ((run Try.prog E).call 14 [.agg ⟨sc⟩] H) (RetB H (buildP one s)) := by
  obtain ⟨w1, w2, w3, w4, rfl, hd, hp, hi, hb⟩ := hs
  obtain ⟨b1, rfl⟩ := repDcl.G_slice hd
  obtain ⟨b2, rfl⟩ := repPrc.G_slice hp
  obtain ⟨b3, rfl⟩ := repItm.G_slice hi
  obtain ⟨b4, rfl⟩ := repStm.G_slice hb
  rw [c_Build hE, callB, bodyOf]
  simp [Try.f14, sr5]
  refine loop_mid2 (DeclJ H (sr5 s.name (.slice b1 s.decls.length s.decls.length) (.slice b2 s.procs.length s.procs.length) (.slice b3 s.claims.length s.claims.length) (.slice b4 s.body.length s.body.length)) (declsB tab0 s.decls))
    (DeclI H (sr5 s.name (.slice b1 s.decls.length s.decls.length) (.slice b2 s.procs.length s.procs.length) (.slice b3 s.claims.length s.claims.length) (.slice b4 s.body.length s.body.length)) s.decls (declsB tab0 s.decls)) s.decls.length ?_ ?_ ?_
  · refine ⟨0, tab0, fun i => if i = H.n + 7 then 1 else if i = H.n + 2 then 2 else if i = H.n + 3 then 3 else if i = H.n + 4 then 4 else if i = H.n + 5 then 5 else if i = H.n + 6 then 6 else 0, Nat.zero_le _, by simp, by simp, by simp, ?_⟩
    refine ⟨?_, by simp [sr5, Heap.get_push], by simp [Heap.get_push], ⟨H.n + 1 + 1, H.n + 1 + 1 + 1, H.n + 1 + 1 + 1 + 1, .slice (some ⟨H.n + 1 + 1 + 1 + 1 + 1, 0, none⟩) 1 1, .slice (some ⟨H.n + 1 + 1 + 1 + 1 + 1 + 1, 0, none⟩) 1 1, nl, nl, nl, ?_⟩, fun i hi => by rw [if_neg (by omega), if_neg (by omega), if_neg (by omega), if_neg (by omega), if_neg (by omega), if_neg (by omega)], tab0_ok⟩
    · exact (((((((Same.push _ _ _).then_push _).then_push _).then_push _).then_push _).then_push _).then_push _).then_push _
    · exact ⟨by simp [Heap.get_push, tab0], by simp, by simp [Heap.get_push, tab0, ents], by simp, by simp [Heap.get_push, tab0, ents], by simp, by simp [Heap.get_push, tab0, ents], by simp,
        .inr ⟨H.n + 1 + 1 + 1 + 1 + 1, 0, [.map none], rfl, by omega, by simp, by simp [Heap.get_push, repLoc], [.map none], [], rfl, .inl ⟨rfl, rfl⟩, rfl⟩,
        .inr ⟨H.n + 1 + 1 + 1 + 1 + 1 + 1, 0, [.int .i64 0], rfl, by omega, by simp, by simp [Heap.get_push, repInt], [.int .i64 0], [], rfl, rfl, rfl⟩,
        repCel.G_nil _ _, repInt.G_nil _ _, repInt.G_nil _ _, fun i hi => by simp at hi; rw [if_neg (by omega), if_neg (by omega), if_neg (by omega), if_neg (by omega), if_neg (by omega), if_neg (by omega)]⟩
  · rintro m t K hk ⟨k, T, col, hkl, rfl, g21, hres, hB⟩
    have ht : t.length = 62 := hk.1.trans (by simp [len_Bs])
    have hh := hk.all [1, 3, 4, 19, 20] (by decide +kernel)
    simp at hh
    obtain ⟨u1, u3, u4, u19, u20⟩ := hh
    have g0 := hB.box
    have gr := hB.res
    obtain ⟨nid, pid, rid, x1, x2, x3, x4, x5, hT⟩ := hB.tab
    have nK := hB.same.n
    have trK : H.n + 1 < K.n := Heap.lt_of_get gr (by simp)
    rcases Nat.lt_or_ge k s.decls.length with hlt | hge
    · have hb1 : ∃ id tl cs, b1 = some ⟨id, 0, none⟩ ∧ id < H.n ∧ H.get id = .row true tl 4 cs ∧ cs.length = s.decls.length * 4 ∧ (cs.drop (k * 4)).take 4 = dsc s.decls[k].kind s.decls[k].at_ s.decls[k].name s.decls[k].n := by
        rcases hd with ⟨e1, e2⟩ | ⟨id, tl, cs, e1, _, e3, e4, e5⟩
        · rw [e2] at hlt; cases hlt
        · cases e1
          exact ⟨id, tl, cs, rfl, e3, e4, repDcl.L_len e5, repDcl.L_get k hlt e5⟩
      obtain ⟨id, tl, cs, rfl, hid, hrow, hcl, hget⟩ := hb1
      have hrK := hB.same.at hrow (by simp) (fun h => h)
      have hkl' : (k : Int) < s.decls.length := by omega
      have hdrop : s.decls.drop k = s.decls[k] :: s.decls.drop (k + 1) := List.drop_eq_getElem_cons hlt
      have hdn := hn s.decls[k] (List.getElem_mem hlt)
      generalize hdk : s.decls[k] = d at *
      rw [hdrop, declsB] at hres
      have hB1 := hB.keep (Same.push (fun _ => False) K (.row true 0 1 (dsc d.kind d.at_ d.name d.n))) (fun _ h => h.elim)
      obtain ⟨nid, pid, rid, x1, x2, x3, x4, x5, hT1⟩ := hB1.tab
      obtain ⟨K2, e2, k2⟩ := known_run hE hT1 d.name
      have hB2 := hB1.keep k2 (fun _ h => h.elim)
      have gd2 : K2.get K.n = .row true 0 1 (dsc d.kind d.at_ d.name d.n) := k2.at (Heap.get_push_self _ _) (by simp) (fun h => h)
      have n2 := k2.n
      simp at n2
      have g02 := hB2.box
      have gr2 := hB2.res
      have tr2 : H.n + 1 < K2.n := by omega
      have td2 : K.n < K2.n := by omega
      simp only [dsc] at hget e2 gd2
      by_cases hkn : knownP T d.name = true
      · rw [if_pos hkn] at hres
        unfold buildP
        rw [← hres]
        simp [ht, u1, u3, u4, u19, u20, g21, hlt, hkl', hrK, hcl, hget, show k * 4 + 4 ≤ s.decls.length * 4 by omega, e2, hkn]
        refine region_quiet (by exact q_bld0) ?_
        simp [ht, u1, u3, u4, gd2, gr2, tr2]
        exact ⟨hB2.same.then_set (by omega) (.inr (by omega)) _, rfl⟩
      · rw [if_neg hkn] at hres
        have hkn' : knownP T d.name = false := by simpa using hkn
        obtain ⟨q1, q2⟩ := known_no hkn'
        obtain ⟨nid2, pid2, rid2, z1, z2, z3, z4, z5, hT2⟩ := hB2.tab
        have ok := hB2.ok
        have eo := of_run hE d.kind K2
        obtain ⟨o, K3, e3, hR⟩ := into_run hE hT2 d q1 (ok.r _ q1) ok.w0 (fun u1 u2 => by have := ok.w1; have := ok.c; have := hdn u1 u2; omega) (by have := ok.t; omega) (by have := ok.s; omega)
        simp only [dsc] at e3
        simp [ht, u1, u3, u4, u19, u20, g21, hlt, hkl', hrK, hcl, hget, show k * 4 + 4 ≤ s.decls.length * 4 by omega, e2, hkn']
        refine region_plan (by exact pl_bld1) ?_
        cases hinto : intoP T d with
        | error c =>
          rw [hinto] at hR hres
          obtain ⟨rfl, hc0, k3⟩ := hR
          have hB3 := hB2.keep k3 (fun _ h => h.elim)
          have gd3 := k3.at gd2 (by simp) (fun h => h)
          have gr3 := hB3.res
          have n3 := k3.n
          have tr3 : H.n + 1 < K3.n := by omega
          unfold buildP
          rw [← hres]
          simp [ht, u1, u3, u4, gd2, td2, eo, e3, hc0]
          refine region_quiet (by exact q_bld2) ?_
          simp [ht, u1, u3, u4, gd3, gr3, tr3]
          exact ⟨hB3.same.then_set (by omega) (.inr (by omega)) _, rfl⟩
        | ok T' =>
          rw [hinto] at hR hres
          obtain ⟨rfl, ⟨col', hT', he⟩, k3⟩ := hR
          have z2 := hB2.zero
          have hB3 : BAt H K3 (sr5 s.name (.slice (some ⟨id, 0, none⟩) s.decls.length s.decls.length) (.slice b2 s.procs.length s.procs.length) (.slice b3 s.claims.length s.claims.length) (.slice b4 s.body.length s.body.length)) col' T' :=
            ⟨hB2.same.then k3 (fun i hi => .inr (by rcases Nat.lt_or_ge i H.n with h | h; exact absurd (z2 i (by omega)) hi; exact h)), k3.at g02 (by simp) (fun h => h (z2 _ (by omega))), k3.at gr2 (by simp) (fun h => h (z2 _ (by omega))), hT', fun i hi => by rw [he i (by omega)]; exact z2 i hi, ok.into hdn hinto⟩
          have hw := wrap64 ((k : Int) + 1) (by omega) (by omega)
          simp [ht, u1, u3, u4, g21, gd2, td2, eo, e3, hw]
          exact ⟨s.decls.length - (k + 1), by omega, k + 1, T', col', by omega, rfl, by simp [ht], hres, hB3⟩
    · have hke : k = s.decls.length := by omega
      subst hke
      rw [List.drop_length, declsB] at hres
      simp [ht, u1, u3, u4, u19, u20, g21]
      exact ⟨T, col, hres.symm, hB, by simp [ht], by simp [ht, u1], by simp [ht, u3], by simp [ht, u4]⟩
  · rintro t K hk ⟨T0, col0, hT0, hB0, ht, u1, u3, u4⟩
    have g0 := hB0.box
    simp only [sr5] at g0
    unfold buildP
    rw [hT0]
    simp only []
    simp [ht, u1, u3, u4, g0]
    refine loop_wp (ProcI one H (sr5 s.name (.slice b1 s.decls.length s.decls.length) (.slice b2 s.procs.length s.procs.length) (.slice b3 s.claims.length s.claims.length) (.slice b4 s.body.length s.body.length)) s.procs (procsB one T0 s.procs)) s.procs.length ?_ ?_
    · exact ⟨0, T0, col0, Nat.zero_le _, by simp, by simp [ht], by simp, hB0⟩
    rintro m t' K hk ⟨k, T, col, hkl, rfl, g48, hres, hB⟩
    have ht' : t'.length = 62 := hk.1.trans (by simp [ht])
    have hh := hk.all [1, 3, 4, 46, 47] (by decide +kernel)
    simp [ht, u1, u3, u4] at hh
    obtain ⟨y1, y3, y4, y46, y47⟩ := hh
    have gr := hB.res
    have nK := hB.same.n
    have trK : H.n + 1 < K.n := Heap.lt_of_get gr (by simp)
    have z := hB.zero
    rcases Nat.lt_or_ge k s.procs.length with hlt | hge
    · have hP := hP.resolve_left (fun e => by rw [e] at hlt; cases hlt)
      have hb2 : ∃ id tl cs, b2 = some ⟨id, 0, none⟩ ∧ id < H.n ∧ H.get id = .row true tl 5 cs ∧ cs.length = s.procs.length * 5 ∧ RPrc H (fun i => i < H.n ∧ i ≠ id) s.procs[k] ((cs.drop (k * 5)).take 5) := by
        rcases hp with ⟨e1, e2⟩ | ⟨id, tl, cs, e1, _, e3, e4, e5⟩
        · rw [e2] at hlt; cases hlt
        · cases e1
          exact ⟨id, tl, cs, rfl, e3, e4, repPrc.L_len e5, repPrc.L_get k hlt e5⟩
      obtain ⟨id, tl, cs, rfl, hid, hrow, hcl, hget⟩ := hb2
      have hrK := hB.same.at hrow (by simp) (fun h => h)
      have hkl' : (k : Int) < s.procs.length := by omega
      have hdrop : s.procs.drop k = s.procs[k] :: s.procs.drop (k + 1) := List.drop_eq_getElem_cons hlt
      have hpq := hq s.procs[k] (List.getElem_mem hlt)
      generalize hdk : s.procs[k] = p at *
      rw [hdrop, procsB] at hres
      obtain ⟨p1, p2, p3, p4, p5, p6, p7, p8, p9, p10, p11, hc⟩ := prc_slices hget
      rw [hc] at hget
      have hB1 := hB.keep (Same.push (fun _ => False) K (.row true 0 1 (pc5 p1 p2 (.slice p3 p4 p5) (.slice p6 p7 p8) (.slice p9 p10 p11)))) (fun _ h => h.elim)
      obtain ⟨nid, pid, rid, x1, x2, x3, x4, x5, hT1⟩ := hB1.tab
      have hget1 : repPrc.R (K.push (.row true 0 1 (pc5 p1 p2 (.slice p3 p4 p5) (.slice p6 p7 p8) (.slice p9 p10 p11)))) (fun i => col i = 0) p (pc5 p1 p2 (.slice p3 p4 p5) (.slice p6 p7 p8) (.slice p9 p10 p11)) :=
        repPrc.move (hB.same.then_push _) (fun i hi _ => ⟨z i (by omega), fun h => h⟩) _ _ hget
      obtain ⟨o, K2, e2, k2, hR⟩ := hP T p col (H.n + 7) nid pid rid x1 x2 x3 x4 x5 _ _ hT1 hB1.ok hpq hget1
      have n2 := k2.n
      simp at n2
      have g02 := k2.at hB1.box (by simp) (fun h => h (z _ (by omega)))
      have gr2 := k2.at hB1.res (by simp) (fun h => h (z _ (by omega)))
      have s2 : Same (fun _ => False) H K2 := hB1.same.then k2 (fun i hi => .inr (by rcases Nat.lt_or_ge i H.n with h | h; exact absurd (z i (by omega)) hi; exact h))
      have tr2 : H.n + 1 < K2.n := by omega
      simp only [pc5] at hc e2
      cases hone : one T p with
      | error q =>
        obtain ⟨c, a⟩ := q
        rw [hone] at hR hres
        obtain ⟨rfl, hc0⟩ := hR
        simp only at hres
        rw [← hres]
        simp [ht', y1, y3, y4, y46, y47, g48, hlt, hkl', hrK, hcl, hc, show k * 5 + 5 ≤ s.procs.length * 5 by omega, e2, hc0]
        refine region_quiet (by exact q_bld3) ?_
        simp [ht', y1, y3, y4, gr2, tr2]
        exact ⟨(s2.then_push _).then_set (by simp; omega) (.inr (by omega)) _, rfl⟩
      | ok T' =>
        rw [hone] at hR hres
        obtain ⟨rfl, hok, col', hT', he⟩ := hR
        have hw := wrap64 ((k : Int) + 1) (by omega) (by omega)
        have hB3 : BAt H (K2.push (.row true 0 1 [.int .i64 0, .int .i64 0])) (sr5 s.name (.slice b1 s.decls.length s.decls.length) (.slice (some ⟨id, 0, none⟩) s.procs.length s.procs.length) (.slice b3 s.claims.length s.claims.length) (.slice b4 s.body.length s.body.length)) col' T' :=
          BAt.keep ⟨s2, g02, gr2, hT', fun i hi => by rw [he i (by simp; omega)]; exact z i hi, hok⟩ (Same.push (fun _ => False) _ _) (fun _ h => h.elim)
        simp [ht', y1, y3, y4, y46, y47, g48, hlt, hkl', hrK, hcl, hc, show k * 5 + 5 ≤ s.procs.length * 5 by omega, e2, hw]
        exact ⟨s.procs.length - (k + 1), by omega, k + 1, T', col', by omega, rfl, by simp [ht'], hres, hB3⟩
    · have hke : k = s.procs.length := by omega
      subst hke
      rw [List.drop_length, procsB] at hres
      rw [← hres]
      simp [ht', y1, y3, y4, y46, y47, g48, gr, trK]
      obtain ⟨nid, pid, rid, x1, x2, x3, x4, x5, hT1⟩ := hB.tab
      exact ⟨hB.same.then_set trK (.inr (by omega)) _, col, H.n + 7, _, _, _, _, _, _, _, _, rfl, hT1.keep (Same.set (X := fun i => i = H.n + 1) K trK rfl _) (fun i hi => by subst hi; exact z _ (by omega)), fun i hi => z i (by omega)⟩
end
end Go.Vm.Scope
