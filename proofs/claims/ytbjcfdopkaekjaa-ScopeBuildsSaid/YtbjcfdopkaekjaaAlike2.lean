/- What is proved: 'signalboxlaw26.alike', of any source that is no longer than may be. -/
import Derived.Test.YtbjcfdopkaekjaaAlike
import Derived.Test.YtbjcfdopkaekjaaParse21
namespace Go.Vm.Parse
open Go Go.Proofs
theorem srcP_bad {B : BrP} {L : List Tk} {n : Nat} {c a : Int} (h : srcP B L n = some (.inr (c, a))) : c ≠ 0 := by
  simp only [srcP, Option.bind_eq_some_iff, Option.map_eq_some_iff] at h
  obtain ⟨d, _, p, _, q, _, b, _, h5⟩ := h
  split at h5
  · cases h5
  · rename_i hc
    simp only [Sum.inr.injEq, Prod.mk.injEq] at h5
    rw [← h5.1]; exact hc
theorem parseP_bad {B : BrP} {src : List UInt8} {n : Nat} {c a : Int} (h : parseP B src n = some (.inr (c, a))) : c ≠ 0 := by
  unfold parseP at h
  simp only [Option.bind_eq_some_iff] at h
  obtain ⟨q, h1, h2⟩ := h
  cases q with
  | inr f =>
    simp only [Option.some.injEq, Sum.inr.injEq] at h2
    subst h2
    exact lexFrom_bad h1
  | inl L => exact srcP_bad h2
end Go.Vm.Parse
namespace Go.Vm.Scope
open Go Go.Proofs Go.Vm.Parse
set_option maxRecDepth 100000
set_option maxHeartbeats 4000000
set_option linter.unusedSimpArgs false
set_option linter.unusedVariables false
attribute [local simp] repCells_succ writeAt rd_Fr toList_beq gpe gpn spe gse gsn ne_r0 ne_l0 le_s0 ne_r1 ne_l1 lt_s1 le_s1 ne_r2 ne_l2 lt_s2 le_s2 ne_r3 ne_l3 lt_s3 le_s3 ne_r4 ne_l4 lt_s4 le_s4 ne_r5 ne_l5 lt_s5 le_s5 ne_r6 ne_l6 lt_s6 le_s6 ne_r7 ne_l7 lt_s7 le_s7
theorem decls_tok : ∀ (l : List Dcl) {T T' : Tab}, TOK T → (∀ d ∈ l, d.kind ≠ 1 → d.kind ≠ 2 → d.n ≤ 1099511627776) → declsB T l = .ok T' → TOK T'
  | [], T, T', h, _, e => by simp only [declsB, Except.ok.injEq] at e; rw [← e]; exact h
  | d :: l, T, T', h, hd, e => by
    rw [declsB] at e
    split at e
    · cases e
    · split at e
      · cases e
      · rename_i T1 h1
        exact decls_tok l (h.into (hd d (by simp)) h1) (fun d hd' => hd d (by simp [hd'])) e
theorem procs_tok : ∀ (l : List Prc) {T T' : Tab}, TOK T → procsB procB T l = .ok T' → TOK T'
  | [], T, T', h, e => by simp only [procsB, Except.ok.injEq] at e; rw [← e]; exact h
  | p :: l, T, T', h, e => by
    rw [procsB] at e
    unfold procB at e
    split at e
    · cases e
    · rename_i T1 h1
      split at h1
      · cases h1
      · split at h1
        · cases h1
        · split at h1
          · cases h1
          · rename_i l1 hl1
            cases h1
            have hq : ¬ 12 ≤ T.procs.length := by assumption
            exact procs_tok l (T := procT T p l1) ⟨h.t, h.s, h.c, h.w0, h.w1, h.r, by simp [procT]; omega, by simp [procT]; exact h.l, by simp [procT]; exact h.p⟩ e
theorem build_tok {s : Src} {T : Tab} (hd : ∀ d ∈ s.decls, d.kind ≠ 1 → d.kind ≠ 2 → d.n ≤ 1099511627776) (e : buildP procB s = .ok T) : TOK T := by
  unfold buildP at e
  split at e
  · cases e
  · rename_i T1 h1
    exact procs_tok _ (decls_tok _ tab0_ok hd h1) e
theorem rdecls_len : ∀ (l : List Dcl) {R R' : RT}, rdeclsB R l = .ok R' → R'.names.length = R.names.length + l.length
  | [], R, R', e => by simp only [rdeclsB, Except.ok.injEq] at e; rw [← e]; rfl
  | d :: l, R, R', e => by
    rw [rdeclsB] at e
    split at e
    · cases e
    · rename_i R1 h1
      have := rdecls_len l e
      unfold rdclB at h1
      split at h1
      · cases h1
      · split at h1
        · cases h1
        · split at h1
          · cases h1
          · cases h1
            rw [this]
            simp [rdclT]
            omega
theorem rprocs_names : ∀ (l : List Prc) {R R' : RT}, rprocsB R l = .ok R' → R'.names = R.names
  | [], R, R', e => by simp only [rprocsB, Except.ok.injEq] at e; rw [← e]
  | p :: l, R, R', e => by
    rw [rprocsB] at e
    split at e
    · cases e
    · rename_i R1 h1
      have := rprocs_names l e
      unfold rprcB at h1
      split at h1
      · cases h1
      · split at h1
        · cases h1
        · split at h1
          · cases h1
          · cases h1
            exact this
theorem build_rok {s : Src} {T : Tab} {R : RT} (hT : TOK T) (ha : Agree T R) (hl : s.decls.length ≤ 100000) (e : rbuildB s = .ok R) : ROK R := by
  unfold rbuildB at e
  split at e
  · cases e
  · rename_i R1 h1
    have l1 := rdecls_len _ h1
    have l2 := rprocs_names _ e
    simp [rt0] at l1
    have q := hT.q
    rw [ha.a7, numF_len] at q
    exact ⟨ha.n1, ha.n2, ha.n3, ha.n4, by rw [l2]; omega, by omega, fun l h => by have := ha.l3 l h; omega, ha.sz⟩
theorem reg_of : ∀ (l : List ByteArray) (ms : List Nm) (vs : List Int) (n : Nat), ms.length = l.length → vs.length = l.length → (regL n (l.zip ms)).length = (ofF 3 (ms.zip vs)).length
  | [], [], [], n, _, _ => rfl
  | a :: l, m :: ms, v :: vs, n, h1, h2 => by
    simp only [List.zip_cons_cons, regL, ofF]
    have ih := fun n => reg_of l ms vs n (by simpa using h1) (by simpa using h2)
    split
    · simp only [List.length_cons, ih]
    · exact ih n
  | [], _ :: _, _, _, h, _ => by cases h
  | [], [], _ :: _, _, _, h => by cases h
  | _ :: _, [], _, _, h, _ => by cases h
  | _ :: _, _ :: _, [], _, _, h => by cases h
def AlkD (H K0 : Heap) (n : Nat) (m : Nat) (t : List Value) (K : Heap) : Prop := Same (fun _ => False) K0 K ∧ ∃ k : Nat, k ≤ n ∧ m = n - k ∧ rd t 11 = .int .i64 k
def AlkP (H K0 : Heap) (n : Nat) (m : Nat) (t : List Value) (K : Heap) : Prop := Same (fun _ => False) K0 K ∧ ∃ k : Nat, k ≤ n ∧ m = n - k ∧ rd t 12 = .int .i64 k
def AlkQ (H K0 : Heap) (n : Nat) (m : Nat) (t : List Value) (K : Heap) : Prop := Same (fun _ => False) K0 K ∧ ∃ k : Nat, k ≤ n ∧ m = n - k ∧ rd t 13 = .int .i64 k
def AlkJ (K0 : Heap) (t : List Value) (K : Heap) : Prop := Same (fun _ => False) K0 K
section
variable {E : Hooks} (hE : Plain E)
include hE
theorem c_alike (args : List Value) (H : Heap) : (run Try.prog E).call 6 args H = callB Try.prog E Try.f6 args H := call_B Try.func6 rfl (by decide +kernel) (hE.no _ rfl rfl) args H
theorem alike_run {H : Heap} {v : Value} {src : List UInt8} (hv : isTuple v = false) (hall : AllOK E H v src) (hsm : src.length ≤ 4096) (x : ByteArray) :
    Gives ((run Try.prog E).call 6 [v, .string x] H) fun o H' => o = .val (.bool true) := by
  obtain ⟨n, res, hx⟩ := parse_ans src
  obtain ⟨o, HP, eP, hP⟩ := parse_any hE hv hall hsm hx
  rw [c_alike hE, callB, bodyOf]
  cases res with
  | inr f =>
    obtain ⟨c, a⟩ := f
    have hc := parseP_bad hx
    obtain ⟨kP, rfl⟩ := hP
    simp only [sr5] at eP
    simp [Try.f6, eP, hc]
  | inl S =>
    obtain ⟨kP, cs, rfl, hRS⟩ := hP
    have sok := parse_ok hx
    obtain ⟨y, a1, a2, a3, b1, b2, b3, c1, c2, c3, d1, d2, d3, rfl⟩ := hRS.slices
    simp only [sr5] at eP
    have hsz := sok.size
    have hlp := szPs_len S.procs
    have hK : Same (fun _ => False) HP ((((HP.push (.row true 0 1 [.string ByteArray.empty, .slice none 0 0, .slice none 0 0, .slice none 0 0, .slice none 0 0])).push (.row true 0 1 [.int .i64 0, .int .i64 0])).set HP.n (.row true 0 1 [.string y, .slice a1 a2 a3, .slice b1 b2 b3, .slice c1 c2 c3, .slice d1 d2 d3])).set (HP.n + 1) (.row true 0 1 [.int .i64 0, .int .i64 0])) := Same.then_set (Same.then_set ((Same.push _ _ _).then_push _) (by simp) (.inr (by simp)) _) (by simp) (.inr (by simp)) _
    have hRS2 : RSrc ((((HP.push (.row true 0 1 [.string ByteArray.empty, .slice none 0 0, .slice none 0 0, .slice none 0 0, .slice none 0 0])).push (.row true 0 1 [.int .i64 0, .int .i64 0])).set HP.n (.row true 0 1 [.string y, .slice a1 a2 a3, .slice b1 b2 b3, .slice c1 c2 c3, .slice d1 d2 d3])).set (HP.n + 1) (.row true 0 1 [.int .i64 0, .int .i64 0])) (fun i => i < HP.n + 2) S (sr5 y (.slice a1 a2 a3) (.slice b1 b2 b3) (.slice c1 c2 c3) (.slice d1 d2 d3)) :=
      hRS.move hK (fun j hj hlt => ⟨by omega, fun h => h⟩)
    have g5 : ((((HP.push (.row true 0 1 [.string ByteArray.empty, .slice none 0 0, .slice none 0 0, .slice none 0 0, .slice none 0 0])).push (.row true 0 1 [.int .i64 0, .int .i64 0])).set HP.n (.row true 0 1 [.string y, .slice a1 a2 a3, .slice b1 b2 b3, .slice c1 c2 c3, .slice d1 d2 d3])).set (HP.n + 1) (.row true 0 1 [.int .i64 0, .int .i64 0])).get HP.n = .row true 0 1 [.string y, .slice a1 a2 a3, .slice b1 b2 b3, .slice c1 c2 c3, .slice d1 d2 d3] := by rw [Heap.get_set _ _ _ (by simp), if_neg (by simp)]; exact Heap.get_set_self _ _ (by simp)
    have nK : ((((HP.push (.row true 0 1 [.string ByteArray.empty, .slice none 0 0, .slice none 0 0, .slice none 0 0, .slice none 0 0])).push (.row true 0 1 [.int .i64 0, .int .i64 0])).set HP.n (.row true 0 1 [.string y, .slice a1 a2 a3, .slice b1 b2 b3, .slice c1 c2 c3, .slice d1 d2 d3])).set (HP.n + 1) (.row true 0 1 [.int .i64 0, .int .i64 0])).n = HP.n + 2 := rfl
    simp [Try.f6, eP]
    generalize hKK : (((HP.push (.row true 0 1 [.string ByteArray.empty, .slice none 0 0, .slice none 0 0, .slice none 0 0, .slice none 0 0])).push (.row true 0 1 [.int .i64 0, .int .i64 0])).set HP.n (.row true 0 1 [.string y, .slice a1 a2 a3, .slice b1 b2 b3, .slice c1 c2 c3, .slice d1 d2 d3])).set (HP.n + 1) (.row true 0 1 [.int .i64 0, .int .i64 0]) = K at *
    have hdn : ∀ d ∈ S.decls, d.kind ≠ 1 → d.kind ≠ 2 → d.n ≤ 1099511627776 := fun d hd k1 k2 => by
      have := sok.decls d hd
      have := this.n2 (by have := this.k1; omega)
      omega
    have hpq : ∀ p ∈ S.procs, p.params.length + p.vars.length ≤ 100000 := fun p hp => by
      have := szPs_mem hp
      unfold szP at this
      omega
    obtain ⟨oB, KB, eB, hB⟩ := build_run hE (one := procB) (.inr (proc_ok8 hE)) (RSrc.move (Same.refl (fun _ => False) K) (fun j hj _ => ⟨by rw [nK]; exact hj, fun h => h⟩) hRS2) hdn hpq (by omega) (by omega)
    have kB := hB.1
    have g5B : ∀ o : AObj, (KB.push o).get HP.n = _ := fun o => (kB.then_push o).at g5 (by simp) (fun h => h)
    have both := both_build S sok.decls
    simp only [sr5] at eB
    cases hb : buildP procB S with
    | error e =>
      obtain ⟨c, a⟩ := e
      rw [hb] at hB both
      obtain ⟨_, rfl⟩ := hB
      cases hr : rbuildB S with
      | ok R => rw [hr] at both; exact both.elim
      | error e' =>
        rw [hr] at both
        have both : (c, a) = e' := both
        subst both
        obtain ⟨oR, KR, eR, hRr⟩ := rbuild_run hE (H := KB.push (.row true 0 1 [.int .i64 c, .int .i64 a])) (RSrc.move (kB.then_push _) (fun j hj _ => ⟨by have := kB.n; simp; omega, fun h => h⟩) hRS2) (fun d hd => ⟨(sok.decls d hd).k1, (sok.decls d hd).k4⟩) hpq (by omega) (by omega)
        rw [hr] at hRr
        obtain ⟨kR, rfl⟩ := hRr
        try simp only [sr5] at eR
        have g8 : KR.get KB.n = .row true 0 1 [.int .i64 c, .int .i64 a] := kR.at (Heap.get_push_self _ _) (by simp) (fun h => h)
        have g8' : ∀ o : AObj, (KR.push o).get KB.n = .row true 0 1 [.int .i64 c, .int .i64 a] := fun o => (Same.push (fun _ => False) KR o).at g8 (by simp) (fun h => h)
        simp [g5, eB, g5B, eR, g8', fault_neq, bin_neq_bool, Try.underlying4]
    | ok T =>
      rw [hb] at hB both
      obtain ⟨_, colT, tid, nid, pid, rid, v1, v2, v3, v4, v5, rfl, hT, zT⟩ := hB
      cases hr : rbuildB S with
      | error e' => rw [hr] at both; exact both.elim
      | ok R =>
        rw [hr] at both
        have ha : Agree T R := both
        have hok := build_tok hdn hb
        have rok := build_rok hok ha (by omega) hr
        obtain ⟨oR, KR, eR, hRr⟩ := rbuild_run hE (H := KB.push (.row true 0 1 [.int .i64 0, .int .i64 0])) (RSrc.move (kB.then_push _) (fun j hj _ => ⟨by have := kB.n; simp; omega, fun h => h⟩) hRS2) (fun d hd => ⟨(sok.decls d hd).k1, (sok.decls d hd).k4⟩) hpq (by omega) (by omega)
        rw [hr] at hRr
        obtain ⟨kR, colR, rtid, w1, w2, w3, w4, w5, w6, rfl, hR, zR⟩ := hRr
        try simp only [sr5] at eR
        have g8 : KR.get KB.n = .row true 0 1 [.int .i64 0, .int .i64 0] := kR.at (Heap.get_push_self _ _) (by simp) (fun h => h)
        have g8' : ∀ o : AObj, (KR.push o).get KB.n = .row true 0 1 [.int .i64 0, .int .i64 0] := fun o => (Same.push (fun _ => False) KR o).at g8 (by simp) (fun h => h)
        have kBR : Same (fun _ => False) KB (KR.push (.row true 0 1 [.int .i64 0, .int .i64 0])) := ((Same.push _ _ _).trans kR).then_push _
        have hT2 := hT.keep kBR (fun _ h => h.elim)
        have hR2 := hR.keep (Same.push (fun _ => False) KR (.row true 0 1 [.int .i64 0, .int .i64 0])) (fun _ h => h.elim)
        have kK0 : Same (fun _ => False) K (KR.push (.row true 0 1 [.int .i64 0, .int .i64 0])) := kB.trans kBR
        have hS0 := RSrc.move (X := fun _ => False) (S' := fun _ => True) kK0 (fun j hj _ => ⟨trivial, fun h => h⟩) hRS2
        have g50 := kK0.at g5 (by simp) (fun h => h)
        obtain ⟨z1, z2, z3, z4, ez, gd, gp, gi, gb⟩ := hS0
        simp only [sr5, List.cons.injEq, and_true] at ez
        obtain ⟨ez1, ez2, ez3, ez4, ez5⟩ := ez
        subst ez2
        subst ez3
        obtain ⟨bd, ebd⟩ := repDcl.G_slice gd
        obtain ⟨bp, ebp⟩ := repPrc.G_slice gp
        cases ebd
        cases ebp
        simp [g5, eB, g5B, eR, g8', fault_neq, bin_neq_bool, Try.underlying4]
        generalize hK0 : KR.push (.row true 0 1 [.int .i64 0, .int .i64 0]) = K0 at *
        have sm := fun (A : Heap) (k : Same (fun _ => False) K0 A) (z : ByteArray) => same_run hE (hT2.keep k (fun _ h => h.elim)) (hR2.keep k (fun _ h => h.elim)) ha hok rok z
        refine loop_mid2 (AlkJ K0) (AlkD H K0 S.decls.length) S.decls.length ?_ ?_ ?_
        · exact ⟨Same.refl _ _, 0, Nat.zero_le _, by simp, by simp⟩
        · rintro m t A hk ⟨kA, k, hkl, rfl, g11⟩
          have ht : t.length = 136 := hk.1.trans (by simp [len_Bs])
          have hh := hk.all [1, 5, 7, 9] (by decide +kernel)
          simp at hh
          obtain ⟨u1, u5, u7, u9⟩ := hh
          have g5A := kA.at g50 (by simp) (fun h => h)
          rcases Nat.lt_or_ge k S.decls.length with hlt | hge
          · obtain ⟨id, tl, cs, e1, _, _, hrow, hcl, hget, hle⟩ := repDcl.G_at gd hlt
            cases e1
            simp only [repDcl, dsc] at hget hrow hcl hle
            have hrA := kA.at hrow (by simp) (fun h => h)
            obtain ⟨B, eS, kS⟩ := sm A kA S.decls[k].name
            generalize S.decls[k] = d at *
            have hc2 : cs[k * 4 + 2]? = some (.string d.name) := by
              have := congrArg (fun q => q[2]?) hget
              simpa using this
            have hc3 : cs[k * 4 + 2]'(by omega) = .string d.name := (List.getElem?_eq_some_iff.1 hc2).2
            have w1 : IntKind.i64.wrap ((k : Int) + 1) = (k : Int) + 1 := wrap64 _ (by omega) (by omega)
            simp [ht, u1, u5, u7, u9, g11, g5A, hlt, hrA, hcl, hle, hc2, hc3, eS, w1]
            exact ⟨S.decls.length - (k + 1), by omega, kA.trans kS, k + 1, by omega, rfl, by simp [ht]⟩
          · simp [ht, u1, u5, u7, u9, g11, g5A, show ¬ k < S.decls.length by omega]
            exact kA
        rintro t A hk kA
        have kA : Same (fun _ => False) K0 A := kA
        have ht : t.length = 136 := hk.1.trans (by simp [len_Bs])
        have hh := hk.all [1, 5, 7, 9] (by decide +kernel)
        simp at hh
        obtain ⟨u1, u5, u7, u9⟩ := hh
        simp [ht, u1, u5, u7, u9]
        refine loop_mid2 (AlkJ K0) (AlkP H K0 S.procs.length) S.procs.length ?_ ?_ ?_
        · exact ⟨kA, 0, Nat.zero_le _, by simp, by simp [ht]⟩
        · clear kA
          rintro m t1 A hk1 ⟨kA, k, hkl, rfl, g12⟩
          have ht1 : t1.length = 136 := hk1.1.trans (by simp [ht])
          have hh1 := hk1.all [1, 5, 7, 9] (by decide +kernel)
          simp [ht, u1, u5, u7, u9] at hh1
          obtain ⟨s1, s5, s7, s9⟩ := hh1
          have g5A := kA.at g50 (by simp) (fun h => h)
          rcases Nat.lt_or_ge k S.procs.length with hlt | hge
          · obtain ⟨id, tl, cs, e1, _, _, hrow, hcl, hget, hle⟩ := repPrc.G_at gp hlt
            cases e1
            obtain ⟨q1, q2, q3, hc, gpp, gpv, gpb⟩ := hget
            obtain ⟨r1, rfl⟩ := repIdn.G_slice gpp
            obtain ⟨r2, rfl⟩ := repIdn.G_slice gpv
            obtain ⟨r3, rfl⟩ := repStm.G_slice gpb
            simp only [repPrc, pc5] at hc hrow hcl hle
            have hrA := kA.at hrow (by simp) (fun h => h)
            obtain ⟨B, eS, kS⟩ := sm A kA S.procs[k].name
            have hpqk := hpq S.procs[k] (List.getElem_mem hlt)
            generalize S.procs[k] = p at *
            have hc1 : cs[k * 5 + 1]? = some (.string p.name) := by
              have := congrArg (fun q => q[1]?) hc
              simpa using this
            have hc1' : cs[k * 5 + 1]'(by omega) = .string p.name := (List.getElem?_eq_some_iff.1 hc1).2
            have hc2 : cs[k * 5 + 2]? = some (.slice r1 p.params.length p.params.length) := by
              have := congrArg (fun q => q[2]?) hc
              simpa using this
            have hc2' : cs[k * 5 + 2]'(by omega) = .slice r1 p.params.length p.params.length := (List.getElem?_eq_some_iff.1 hc2).2
            have w1 : IntKind.i64.wrap ((k : Int) + 1) = (k : Int) + 1 := wrap64 _ (by omega) (by omega)
            have kB2 := kA.trans kS
            simp [ht1, s1, s5, s7, s9, g12, g5A, hlt, hrA, hcl, hle, hc1, hc1', eS]
            refine loop_wp (AlkQ H K0 p.params.length) p.params.length ?_ ?_
            · exact ⟨kB2, 0, Nat.zero_le _, by simp, by simp [ht1]⟩
            · clear kB2 kS eS
              rintro m t2 B hk2 ⟨kB, j, hjl, rfl, g13⟩
              have ht2 : t2.length = 136 := hk2.1.trans (by simp [ht1])
              have hh2 := hk2.all [1, 5, 7, 9, 12] (by decide +kernel)
              simp [ht1, s1, s5, s7, s9, g12] at hh2
              obtain ⟨x1, x5, x7, x9, x12⟩ := hh2
              have g5B2 := kB.at g50 (by simp) (fun h => h)
              have hrB := kB.at hrow (by simp) (fun h => h)
              rcases Nat.lt_or_ge j p.params.length with hjt | hjg
              · obtain ⟨iid, itl, ics, ie, _, _, irow, icl, iget, ile⟩ := repIdn.G_at gpp hjt
                cases ie
                simp only [repIdn, Idn.cells] at iget irow icl ile
                have irB := kB.at irow (by simp) (fun h => h)
                obtain ⟨C, eS, kS⟩ := sm B kB p.params[j].name
                generalize p.params[j] = z at *
                have ic1 : ics[j * 2 + 1]? = some (.string z.name) := by
                  have := congrArg (fun q => q[1]?) iget
                  simpa using this
                have ic1' : ics[j * 2 + 1]'(by omega) = .string z.name := (List.getElem?_eq_some_iff.1 ic1).2
                have w2 : IntKind.i64.wrap ((j : Int) + 1) = (j : Int) + 1 := wrap64 _ (by omega) (by omega)
                simp [ht2, x1, x5, x7, x9, x12, g13, g5B2, hlt, hrB, hcl, hle, hc2, hc2', hjt, irB, icl, ile, ic1, ic1', eS, w2]
                exact ⟨p.params.length - (j + 1), by omega, kB.trans kS, j + 1, by omega, rfl, by simp [ht2]⟩
              · simp [ht2, x1, x5, x7, x9, x12, g13, g5B2, hlt, hrB, hcl, hle, hc2, hc2', w1, show ¬ j < p.params.length by omega]
                exact ⟨S.procs.length - (k + 1), by omega, kB, k + 1, by omega, rfl, by simp [ht2]⟩
          · simp [ht1, s1, s5, s7, s9, g12, g5A, show ¬ k < S.procs.length by omega]
            exact kA
        · clear kA
          rintro t1 A hk1 kA
          have kA : Same (fun _ => False) K0 A := kA
          have ht1 : t1.length = 136 := hk1.1.trans (by simp [ht])
          have hh1 := hk1.all [1, 5, 7, 9] (by decide +kernel)
          simp [ht, u1, u5, u7, u9] at hh1
          obtain ⟨s1, s5, s7, s9⟩ := hh1
          obtain ⟨A1, f1, q1⟩ := sm A kA x
          have k1 := kA.trans q1
          obtain ⟨y1, A2, f2, G2, q2⟩ := cells_run hE (hT2.keep k1 (fun _ h => h.elim)) hok
          have k2 := k1.trans q2
          obtain ⟨y2, A3, f3, G3, q3⟩ := rcells_run hE (hR2.keep k2 (fun _ h => h.elim)) rok
          have k3 := k2.trans q3
          have f4 := cells_same hE (repCel.G_move q3 (S' := fun i => A1.n ≤ i) (fun i hi _ => ⟨hi, fun h => h⟩) G2) (by rw [ha.a4]; exact G3) (by have := hok.c; omega)
          obtain ⟨y3, A4, f5, G5, q4⟩ := semas_run hE (hT2.keep k3 (fun _ h => h.elim)) hok
          have k4 := k3.trans q4
          obtain ⟨y4, A5, f6, G6, q5⟩ := rof_run hE (hR2.keep k4 (fun _ h => h.elim)) rok 2
          have k5 := k4.trans q5
          have f7 := ints_same hE (repInt.G_move q5 (S' := fun i => A3.n ≤ i) (fun i hi _ => ⟨hi, fun h => h⟩) G5) (by rw [ha.a3]; exact G6) (by have := hok.s; omega)
          obtain ⟨y5, A6, f8, G8, q6⟩ := totals_run hE (hT2.keep k5 (fun _ h => h.elim)) hok
          have k6 := k5.trans q6
          obtain ⟨y6, A7, f9, G9, q7⟩ := rof_run hE (hR2.keep k6 (fun _ h => h.elim)) rok 1
          have k7 := k6.trans q7
          have f10 := ints_same hE (repInt.G_move q7 (S' := fun i => A5.n ≤ i) (fun i hi _ => ⟨hi, fun h => h⟩) G8) (by rw [ha.a2]; exact G9) (by have := hok.t; omega)
          obtain ⟨A8, f11, q8⟩ := regions_run hE (hT2.keep k7 (fun _ h => h.elim))
          have k8 := k7.trans q8
          obtain ⟨y7, A9, f12, G12, q9⟩ := rof_run hE (hR2.keep k8 (fun _ h => h.elim)) rok 3
          have hreg : T.regions.length = (ofF 3 (R.means.zip R.values)).length := by rw [ha.a6]; exact reg_of _ _ _ _ ha.n1 ha.n2
          obtain ⟨y1b, rfl⟩ := repCel.G_slice G2
          obtain ⟨y2b, rfl⟩ := repCel.G_slice G3
          obtain ⟨y3b, rfl⟩ := repInt.G_slice G5
          obtain ⟨y4b, rfl⟩ := repInt.G_slice G6
          obtain ⟨y5b, rfl⟩ := repInt.G_slice G8
          obtain ⟨y6b, rfl⟩ := repInt.G_slice G9
          obtain ⟨y7b, rfl⟩ := repInt.G_slice G12
          simp [ht1, s1, s7, s9, f1, f2, f3, f4, f5, f6, f7, f8, f9, f10, f11, f12, hreg]
end
end Go.Vm.Scope
