/- What is proved: a table's 'proc'. -/
import Derived.Test.YtbjcfdopkaekjaaTab8
namespace Go.Vm.Scope
open Go Go.Proofs Go.Vm.Parse
set_option maxRecDepth 100000
set_option maxHeartbeats 4000000
set_option linter.unusedSimpArgs false
set_option linter.unusedVariables false
attribute [local simp] repCells_succ writeAt rd_Fr toList_beq gpe gpn spe gse gsn ne_r0 ne_l0 le_s0 ne_r1 ne_l1 lt_s1 le_s1 ne_r2 ne_l2 lt_s2 le_s2 ne_r3 ne_l3 lt_s3 le_s3 ne_r4 ne_l4 lt_s4 le_s4 ne_r5 ne_l5 lt_s5 le_s5 ne_r6 ne_l6 lt_s6 le_s6 ne_r7 ne_l7 lt_s7 le_s7
/-- What a procedure's names mean, by their places in its head; or what is wrong. -/
def localsP (np : Nat) : List (ByteArray × Int) → Nat → List Idn → Except (Int × Int) (List (ByteArray × Int))
  | acc, _, [] => .ok acc
  | acc, i, x :: xs => if (findP x.name acc).isSome = true then .error (17, x.at_) else if (i < np ∧ 4 ≤ i) ∨ 8 ≤ i then .error (16, x.at_) else localsP np (acc ++ [(x.name, (i : Int))]) (i + 1) xs
def procT (T : Tab) (p : Prc) (l : List (ByteArray × Int)) : Tab := { T with procs := T.procs ++ [(p.name, (T.locals.length : Int))], locals := T.locals ++ [l], params := T.params ++ [(p.params.length : Int)] }
def procB (T : Tab) (p : Prc) : Except (Int × Int) Tab :=
  if knownP T p.name = true then .error (17, p.at_)
  else if 12 ≤ T.procs.length then .error (16, p.at_)
  else match localsP p.params.length [] 0 (p.params ++ p.vars) with
    | .error e => .error e
    | .ok l => .ok (procT T p l)
theorem tf_loc9 : TF Try.prog 103 1 := ⟨_, _, _, by simp, by simp, by simp; rfl, by omega, by simp; rfl, rfl, by omega, rfl⟩
theorem q_proc0 : quiet Try.prog (drawN Try.f48 0) = true := by decide +kernel
theorem no_proc1 : planOf Try.prog (drawN Try.f48 1) = none := by decide +kernel
theorem late_proc1 : lateAt (drawN Try.f48 1) = none := by decide +kernel
theorem pre_proc1 : preOf (drawN Try.f48 1) = [0, 0, 0, 4, 12, 28, 0, 64, 252, 0, 512, 1536, 3584, 0, 8192, 24576, 57344, 131068, 262141, 524285, 1048573, 2097151, 4194303, 8388607] := by decide +kernel
theorem ok_proc1 : freeOK (drawN Try.f48 1) [0, 0, 0, 4, 12, 28, 0, 64, 252, 0, 512, 1536, 3584, 0, 8192, 24576, 57344, 131068, 262141, 524285, 1048573, 2097151, 4194303, 8388607] = true := by decide +kernel
theorem need_proc1 : needAll (drawN Try.f48 1) = 4 := by decide +kernel
section
variable {H : Heap} {col : Nat → Nat} {tid nid pid rid : Nat} {v1 v2 v3 v4 v5 : Value} {T : Tab}
theorem RTab.set_procs (h : RTab H col tid nid pid rid v1 v2 v3 v4 v5 T) (l : List (ByteArray × Int)) : RTab (H.set pid (.map (ents vI l))) col tid nid pid rid v1 v2 v3 v4 v5 { T with procs := l } := by
  have k : Same (fun i => i = pid) H (H.set pid (.map (ents vI l))) := Same.set (X := fun i => i = pid) H h.lt.2.2.1 rfl _
  have ne : ∀ i, col i ≠ 3 → ¬ i = pid := fun i hi e => hi (by rw [e]; exact h.pc)
  have mv : ∀ {c : Nat}, c ≠ 3 → ∀ i, col i = c → i < H.n → col i = c ∧ ¬ i = pid := fun hc i hi _ => ⟨hi, ne i (by omega)⟩
  exact ⟨k.at h.obj (by simp) (ne _ (by have := h.tc; omega)), h.tc, k.at h.nm (by simp) (ne _ (by have := h.nc; omega)), h.nc, Heap.get_set_self _ _ h.lt.2.2.1, h.pc, k.at h.rm (by simp) (ne _ (by have := h.rc; omega)), h.rc,
    repLoc.G_move k (mv (by omega)) h.g1, repInt.G_move k (mv (by omega)) h.g2, repCel.G_move k (mv (by omega)) h.g3, repInt.G_move k (mv (by omega)) h.g4, repInt.G_move k (mv (by omega)) h.g5, h.top⟩
end
/-- Where the reader of a procedure's names stands. -/
def LocI (K0 : Heap) (np lid : Nat) (ids : List Idn) (res : Except (Int × Int) (List (ByteArray × Int))) (m : Nat) (t : List Value) (K : Heap) : Prop :=
  ∃ k acc, k ≤ ids.length ∧ m = ids.length - k ∧ rd t 47 = .int .i64 k ∧ localsP np acc k (ids.drop k) = res ∧ K.get lid = .map (ents vI acc) ∧ Same (fun i => i = lid) K0 K
def LocJ (K0 : Heap) (lid : Nat) (res : Except (Int × Int) (List (ByteArray × Int))) (t : List Value) (K : Heap) : Prop :=
  ∃ l, res = .ok l ∧ K.get lid = .map (ents vI l) ∧ Same (fun i => i = lid) K0 K
section
variable {E : Hooks} (hE : Plain E)
include hE
theorem proc_ok8 : TProcOK E procB := by
  intro T p col tid nid pid rid v1 v2 v3 v4 v5 cs K hT hok hlen hp
  obtain ⟨w1, w2, w3, rfl, gp, gv, gb⟩ := hp
  obtain ⟨b1, rfl⟩ := repIdn.G_slice gp
  obtain ⟨b2, rfl⟩ := repIdn.G_slice gv
  obtain ⟨b3, rfl⟩ := repStm.G_slice gb
  have hT1 := (hT.keep (Same.push (fun _ => False) _ (.row true 0 1 (pc5 p.at_ p.name (.slice b1 p.params.length p.params.length) (.slice b2 p.vars.length p.vars.length) (.slice b3 p.body.length p.body.length)))) (fun _ h => h.elim)).keep (Same.push (fun _ => False) _ (.row true 0 1 [.int .i64 0, .int .i64 0])) (fun _ h => h.elim)
  obtain ⟨K2, eK, kK⟩ := known_run hE hT1 p.name
  have hT2 := hT1.keep kK (fun _ h => h.elim)
  have k2 : Same (fun _ => False) K K2 := ((Same.push _ _ _).then_push _).trans kK
  have gP2 : K2.get K.n = .row true 0 1 (pc5 p.at_ p.name (.slice b1 p.params.length p.params.length) (.slice b2 p.vars.length p.vars.length) (.slice b3 p.body.length p.body.length)) := kK.at (by rw [Heap.get_push, if_neg (by simp), Heap.get_push_self]) (by simp) (fun h => h)
  have gF2 : K2.get (K.n + 1) = .row true 0 1 [.int .i64 0, .int .i64 0] := kK.at (Heap.get_push_self _ _) (by simp) (fun h => h)
  have l0 := hT.lt
  have l2 := hT2.lt
  have tF2 := Heap.lt_of_get gF2 (by simp)
  have tP2 : K.n < K2.n := by omega
  have g02 := hT2.obj
  have lP := len_ints hT2.pm
  have c0 : col (K.n + 1) = 0 := hT.top _ (by omega)
  rw [c_sproc hE, callB, bodyOf]
  unfold procB
  simp only [pc5] at eK gP2 ⊢
  by_cases h1 : knownP T p.name = true
  · rw [if_pos h1]
    simp [Try.f48, eK, h1, gP2, gF2, tF2]
    exact (Same.none k2).then_set tF2 (.inr (by omega)) _
  rw [if_neg h1]
  have h1' : knownP T p.name = false := by simpa using h1
  obtain ⟨n1, n2⟩ := known_no h1'
  by_cases h2 : 12 ≤ T.procs.length
  · rw [if_pos h2]
    have h2' : (12 : Int) ≤ T.procs.length := by omega
    simp [Try.f48, eK, h1', gP2, gF2, tF2, g02, lP, h2, h2']
    exact (Same.none k2).then_set tF2 (.inr (by omega)) _
  rw [if_neg h2]
  have h2' : ¬ (12 : Int) ≤ T.procs.length := by omega
  have eM := put_ints hT2.pm n2 (T.locals.length : Int)
  obtain ⟨lq, el, clq, hlq⟩ := repLoc.G_some hT.g1 (by have := hok.l; omega)
  subst el
  obtain ⟨pq, el, cpq, hpq⟩ := repInt.G_some hT.g2 (by have := hok.p; omega)
  subst el
  have hT3 := hT2.set_procs (T.procs ++ [(p.name, (T.locals.length : Int))])
  simp [Try.f48, eK, h1', gP2, gF2, tF2, g02, lP, h2, h2']
  refine region_quiet (by exact q_proc0) ?_
  have k3 : Same (fun i => col i ≠ 0) K (K2.set pid (.map (ents vI (T.procs ++ [(p.name, (T.locals.length : Int))])))) := (Same.none k2).then_set l2.2.2.1 (.inl (by have := hT.pc; omega)) _
  have nP : ¬ K.n = pid := by omega
  have nF : ¬ K.n + 1 = pid := by omega
  have gP3 : (K2.set pid (.map (ents vI (T.procs ++ [(p.name, (T.locals.length : Int))])))).get K.n = .row true 0 1 [.int .i64 p.at_, .string p.name, .slice b1 p.params.length p.params.length, .slice b2 p.vars.length p.vars.length, .slice b3 p.body.length p.body.length] := by rw [Heap.get_set _ _ _ l2.2.2.1, if_neg nP]; exact gP2
  have gF3 : (K2.set pid (.map (ents vI (T.procs ++ [(p.name, (T.locals.length : Int))])))).get (K.n + 1) = .row true 0 1 [.int .i64 0, .int .i64 0] := by rw [Heap.get_set _ _ _ l2.2.2.1, if_neg nF]; exact gF2
  have n3 : (K2.set pid (.map (ents vI (T.procs ++ [(p.name, (T.locals.length : Int))])))).n = K2.n := rfl
  simp [g02, gP2, eM]
  generalize hK3 : K2.set pid (.map (ents vI (T.procs ++ [(p.name, (T.locals.length : Int))]))) = K3 at *
  have q3 : ∀ o o' : AObj, ((K3.push o).push o').get K.n = K3.get K.n := fun o o' => by rw [Heap.get_push, if_neg (by simp; omega), Heap.get_push, if_neg (by omega)]
  have q3' : ∀ o : AObj, (K3.push o).get K.n = K3.get K.n := fun o => by rw [Heap.get_push, if_neg (by omega)]
  have gp3 : repIdn.G ((K3.push (.map [])).push (.row true 0 1 [.slice b1 p.params.length p.params.length, .slice b2 p.vars.length p.vars.length])) (fun i => col i = 0) (.slice b1 p.params.length p.params.length) p.params :=
    repIdn.G_move (X := fun i => col i ≠ 0) ((k3.then_push _).then_push _) (fun i hi _ => ⟨hi, fun h => h hi⟩) gp
  have gv3 : repIdn.G ((K3.push (.map [])).push (.row true 0 1 [.slice b1 p.params.length p.params.length, .slice b2 p.vars.length p.vars.length])) (fun i => col i = 0) (.slice b2 p.vars.length p.vars.length) p.vars :=
    repIdn.G_move (X := fun i => col i ≠ 0) ((k3.then_push _).then_push _) (fun i hi _ => ⟨hi, fun h => h hi⟩) gv
  obtain ⟨v, K5, e5, g5, k5⟩ := concat_run hE (H := (K3.push (.map [])).push (.row true 0 1 [.slice b1 p.params.length p.params.length, .slice b2 p.vars.length p.vars.length])) (a := K3.n + 1) (Heap.get_push_self (K3.push (.map [])) _) gp3 gv3 hlen
  have hids2 : (p.params ++ p.vars).length ≤ 100000 := by rw [List.length_append]; exact hlen
  generalize hids : p.params ++ p.vars = ids at *
  obtain ⟨b5, rfl⟩ := repIdn.G_slice g5
  simp [q3, q3', gP3, e5]
  have n5 := k5.n
  simp at n5
  have gP5 : K5.get K.n = _ := k5.at ((q3 _ _).trans gP3) (by simp) (fun h => h)
  have gF5 : K5.get (K.n + 1) = .row true 0 1 [.int .i64 0, .int .i64 0] := k5.at (by rw [Heap.get_push, if_neg (by simp; omega), Heap.get_push, if_neg (by omega)]; exact gF3) (by simp) (fun h => h)
  have gl5 : K5.get K3.n = .map [] := k5.at (by rw [Heap.get_push, if_neg (by simp), Heap.get_push_self]) (by simp) (fun h => h)
  generalize hr0 : localsP p.params.length [] 0 ids = res
  refine loop_mid2 (LocJ K5 K3.n res) (LocI K5 p.params.length K3.n ids res) ids.length ?_ ?_ ?_
  · exact ⟨0, [], Nat.zero_le _, by simp, by simp, hr0, gl5, Same.refl _ _⟩
  · rintro m t K6 hk ⟨k, acc, hkl, rfl, g47, hres, gM, k6⟩
    have ht : t.length = 107 := hk.1.trans (by simp [len_Bs])
    have hh := hk.all [0, 3, 4, 5, 45, 46] (by decide +kernel)
    simp at hh
    obtain ⟨u0, u3, u4, u5, u45, u46⟩ := hh
    have lM := Heap.lt_of_get gM (by simp)
    have gP6 := k6.at gP5 (by simp) (by omega)
    have gF6 := k6.at gF5 (by simp) (by omega)
    have tF6 := Heap.lt_of_get gF6 (by simp)
    have tP6 : K.n < K6.n := by omega
    rcases Nat.lt_or_ge k ids.length with hlt | hge
    · have hb5 : ∃ id tl cs, b5 = some ⟨id, 0, none⟩ ∧ K3.n < id ∧ K5.get id = .row true tl 2 cs ∧ cs.length = ids.length * 2 ∧ (cs.drop (k * 2)).take 2 = (ids[k]).cells := by
        rcases g5 with ⟨e1, e2⟩ | ⟨id, tl, cs, e1, _, e3, e4, e5'⟩
        · rw [e2] at hlt; cases hlt
        · cases e1
          exact ⟨id, tl, cs, rfl, by simp at e3; omega, e4, repIdn.L_len e5', repIdn.L_get k hlt e5'⟩
      obtain ⟨id, tl, cs, rfl, hid, hrow, hcl, hget⟩ := hb5
      have hrow6 := k6.at hrow (by simp) (by omega)
      have hdrop : ids.drop k = ids[k] :: ids.drop (k + 1) := List.drop_eq_getElem_cons hlt
      rw [hdrop] at hres
      generalize ids[k] = x at *
      have hkl' : (k : Int) < ids.length := by omega
      have gM2 : K6.get K2.n = .map (ents vI acc) := by rw [← n3]; exact gM
      have f1 := fun o : AObj => look_ints (H := K6.push o) (nid := K2.n) (l := acc) (by rw [Heap.get_push, if_neg (by omega)]; exact gM2) x.name
      have w1 : IntKind.i64.wrap ((k : Int) + 1) = (k : Int) + 1 := wrap64 _ (by omega) (by omega)
      have f0 : ((findP x.name acc).map vI).getD (.int .i64 0) = .int .i64 ((findP x.name acc).getD 0) := by cases findP x.name acc <;> rfl
      rw [f0] at f1
      rw [localsP] at hres
      simp only [Idn.cells] at hget
      by_cases hf : (findP x.name acc).isSome = true
      · rw [if_pos hf] at hres
        rw [← hres]
        simp [ht, u0, u3, u4, u5, u45, u46, g47, hlt, hkl', hrow6, hcl, hget, show k * 2 + 2 ≤ ids.length * 2 by omega, f1, hf, w1, tF6, gF6]
        have kA : Same (fun i => col i ≠ 0) K K6 := (((k3.then_push _).then_push _).then k5 (fun i hi => hi.elim)).then k6 (fun i hi => .inr (by omega))
        exact (kA.then_push _).then_set (by simp; omega) (.inr (by omega)) _
      · rw [if_neg hf] at hres
        have hf' : findP x.name acc = none := by simpa using hf
        have em := fun o : AObj => put_ints (H := K6.push o) (nid := K2.n) (l := acc) (by rw [Heap.get_push, if_neg (by omega)]; exact gM2) hf' (k : Int)
        simp [ht, u0, u3, u4, u5, u45, u46, g47, hlt, hkl', hrow6, hcl, hget, show k * 2 + 2 ≤ ids.length * 2 by omega, f1, hf']
        have kA : Same (fun i => col i ≠ 0) K K6 := (((k3.then_push _).then_push _).then k5 (fun i hi => hi.elim)).then k6 (fun i hi => .inr (by omega))
        have q6 : ∀ o : AObj, (K6.push o).get K.n = K6.get K.n := fun o => by rw [Heap.get_push, if_neg (by omega)]
        have q6F : ∀ o : AObj, (K6.push o).get (K.n + 1) = K6.get (K.n + 1) := fun o => by rw [Heap.get_push, if_neg (by omega)]
        have bad : (k < p.params.length ∧ 4 ≤ k) ∨ 8 ≤ k → res = .error (16, x.at_) := fun h => by rw [← hres, if_pos h]
        have good : ¬ ((k < p.params.length ∧ 4 ≤ k) ∨ 8 ≤ k) → localsP p.params.length (acc ++ [(x.name, (k : Int))]) (k + 1) (ids.drop (k + 1)) = res := fun h => by rw [← hres, if_neg h]
        have fin : ∀ t' : List Value, rd t' 47 = .int .i64 ((k : Int) + 1) → ¬ ((k < p.params.length ∧ 4 ≤ k) ∨ 8 ≤ k) → LocI K5 p.params.length K3.n ids res (ids.length - (k + 1)) t' ((K6.push (.row true 0 1 [.int .i64 x.at_, .string x.name])).set K2.n (.map (ents vI (acc ++ [(x.name, (k : Int))])))) := fun t' ht' hc =>
          ⟨k + 1, _, by omega, rfl, by rw [ht']; simp, good hc, by rw [n3]; exact Heap.get_set_self _ _ (by simp; omega), (k6.then_push _).then_set (by simp; omega) (.inl n3.symm) _⟩
        by_cases c1 : k < p.params.length
        · have c1' : (k : Int) < p.params.length := by omega
          by_cases c2 : 4 ≤ k
          · have c2' : (4 : Int) ≤ k := by omega
            rw [bad (.inl ⟨c1, c2⟩)]
            simp [ht, u0, u3, u4, u5, g47, q6, q6F, gP6, gF6, tF6, c1, c1', c2, c2']
            exact (kA.then_push _).then_set (by simp; omega) (.inr (by omega)) _
          · have c2' : ¬ (4 : Int) ≤ k := by omega
            have c3' : ¬ (8 : Int) ≤ k := by omega
            simp [ht, u0, u3, u4, u5, g47, q6, q6F, gP6, gF6, tF6, c1, c1', c2, c2', c3', em, w1]
            exact ⟨_, by omega, fin _ (by simp [ht]) (by omega)⟩
        · have c1' : ¬ (k : Int) < p.params.length := by omega
          by_cases c3 : 8 ≤ k
          · have c3' : (8 : Int) ≤ k := by omega
            rw [bad (.inr c3)]
            simp [ht, u0, u3, u4, u5, g47, q6, q6F, gP6, gF6, tF6, c1, c1', c3, c3']
            exact (kA.then_push _).then_set (by simp; omega) (.inr (by omega)) _
          · have c3' : ¬ (8 : Int) ≤ k := by omega
            simp [ht, u0, u3, u4, u5, g47, q6, q6F, gP6, gF6, tF6, c1, c1', c3, c3', em, w1]
            exact ⟨_, by omega, fin _ (by simp [ht]) (by omega)⟩
    · have : k = ids.length := by omega
      subst this
      simp [ht, u0, u3, u4, u5, u45, u46, g47]
      refine ⟨acc, ?_, gM, k6⟩
      rw [List.drop_length] at hres
      exact hres.symm
  · rintro t K6 hk ⟨l, hl, gM, k6⟩
    have ht : t.length = 107 := hk.1.trans (by simp [len_Bs])
    have hh := hk.all [0, 3, 4, 5, 45, 46] (by decide +kernel)
    simp at hh
    obtain ⟨u0, u3, u4, u5, u45, u46⟩ := hh
    subst hl
    have gP6 := k6.at gP5 (by simp) (by omega)
    have gF6 := k6.at gF5 (by simp) (by omega)
    have tF6 := Heap.lt_of_get gF6 (by simp)
    have kB : Same (fun _ => False) K3 K6 := (((Same.push (fun _ => False) K3 (.map [])).then_push (.row true 0 1 [.slice b1 p.params.length p.params.length, .slice b2 p.vars.length p.vars.length])).then k5 (fun i hi => hi.elim)).then k6 (fun i hi => .inr (by omega))
    have hT6 := hT3.keep kB (fun _ h => h.elim)
    have g06 := hT6.obj
    have l6 := hT6.lt
    simp only at g06
    simp [ht]
    refine region_free (by exact no_proc1) (by exact late_proc1) (by exact pre_proc1) (by exact ok_proc1) (by exact need_proc1) ?_
    have qt : ∀ o1 o2 o3 o4 : AObj, ((((K6.push o1).push o2).push o3).push o4).get tid = K6.get tid := fun o1 o2 o3 o4 => by
      rw [Heap.get_push, if_neg (by simp; omega), Heap.get_push, if_neg (by simp; omega), Heap.get_push, if_neg (by simp; omega), Heap.get_push, if_neg (by omega)]
    simp [ht, u0, u3, u4, u5, g06, qt]
    have lMK := Heap.lt_of_get gM (by simp)
    have cz : ∀ i, K.n ≤ i → col i = 0 := hT.top
    have qn : ((((K6.push .dead).push .dead).push .dead).push .dead).n = K6.n + 4 := rfl
    have kR : Same (fun _ => False) K6 ((((K6.push .dead).push .dead).push .dead).push .dead) := (((Same.push _ _ _).then_push _).then_push _).then_push _
    generalize hR : (((K6.push .dead).push .dead).push .dead).push .dead = R at *
    have e7 : exBuildSliceAt Try.prog 103 1 [(0, .map (some K2.n))] K6.n R = some (.slice (some ⟨K6.n, 0, none⟩) 1 1, R.set K6.n (.row true 0 1 [.map (some K2.n)])) := by
      simp [exBuildSliceAt, Heap.pushAt_lt (show K6.n < R.n by omega)]
      rfl
    have k7 : Same (fun i => i = K6.n) R (R.set K6.n (.row true 0 1 [.map (some K2.n)])) := Same.set (X := fun i => i = K6.n) R (by omega) rfl _
    have gM7 : (R.set K6.n (.row true 0 1 [.map (some K2.n)])).get K2.n = .map (ents vI l) := k7.at (kR.at (by rw [← n3]; exact gM) (by simp) (fun h => h)) (by simp) (by omega)
    have G7 : repLoc.G (R.set K6.n (.row true 0 1 [.map (some K2.n)])) (fun i => col i = 5 ∨ i = K2.n) (.slice (some ⟨lq, 0, none⟩) T.locals.length T.locals.length) T.locals :=
      repLoc.G_move (Same.none (kR.mono fun _ h => h) |>.trans k7) (fun i hi hlt => ⟨.inl hi, fun e => by have := cz i (by omega); omega⟩) hT6.g1
    have hvl : ∀ i, vid (.slice (some ⟨lq, 0, none⟩) T.locals.length T.locals.length) i → i < K6.n ∧ col i = 5 := fun i hi => repLoc.G_lt hT6.g1 hi
    obtain ⟨R8, e8, G8, k8, n8⟩ := repLoc.G_appAt tf_loc9 G7 (r := K6.n + 1) (xid := K6.n) (xc := 1) (by simp; omega) (fun h => by have := cz (K6.n + 1) (by omega); omega) (by have := hok.l; have := hok.q; omega) (a := l) (c := [.map (some K2.n)]) (Heap.get_set_self _ _ (by omega)) (.inr ⟨K2.n, rfl, ⟨.inr rfl, fun h => by have := (hvl _ h).2; have := cz K2.n (by omega); omega⟩, gM7⟩)
    simp at n8
    have g08 : R8.get tid = _ := k8.at (k7.at (kR.at g06 (by simp) (fun h => h)) (by simp) (by omega)) (by simp) (fun h => by
      rcases h with h | h
      · have := (hvl _ h).2; have := hT.tc; omega
      · omega)
    have gP8 : R8.get K.n = _ := k8.at (k7.at (kR.at gP6 (by simp) (fun h => h)) (by simp) (by omega)) (by simp) (fun h => by
      rcases h with h | h
      · have := (hvl _ h).2; have := cz K.n (by omega); omega
      · omega)
    have e9 : exBuildSliceAt Try.prog 61 1 [(0, .int .i64 p.params.length)] (K6.n + 2) R8 = some (.slice (some ⟨K6.n + 2, 0, none⟩) 1 1, R8.set (K6.n + 2) (.row true 0 1 [.int .i64 p.params.length])) := by
      simp [exBuildSliceAt, Heap.pushAt_lt (show K6.n + 2 < R8.n by omega)]
      rfl
    have k9 : Same (fun i => i = K6.n + 2) R8 (R8.set (K6.n + 2) (.row true 0 1 [.int .i64 p.params.length])) := Same.set (X := fun i => i = K6.n + 2) R8 (by omega) rfl _
    have mv8 : ∀ i, i < K.n → col i ≠ 5 → ¬ ((vid (.slice (some ⟨lq, 0, none⟩) T.locals.length T.locals.length) i) ∨ i = K6.n + 1) := fun i hi hc e => e.elim (fun e => hc (hvl _ e).2) (fun e => by omega)
    have hX : ∀ i, col i ≠ 0 → i < K.n := fun i hi => by
      rcases Nat.lt_or_ge i K.n with h | h
      · exact h
      · exact absurd (cz i h) hi
    have kAll : Same (fun i => i = K6.n ∨ vid (.slice (some ⟨lq, 0, none⟩) T.locals.length T.locals.length) i ∨ i = K6.n + 1 ∨ i = K6.n + 2) K6 (R8.set (K6.n + 2) (.row true 0 1 [.int .i64 p.params.length])) :=
      ((kR.mono fun _ h => h.elim).trans ((k7.mono fun _ h => .inl h).trans ((k8.mono fun _ h => .inr (h.elim .inl (fun h => .inr (.inl h)))).trans (k9.mono fun _ h => .inr (.inr (.inr h))))))
    have G9 : repInt.G (R8.set (K6.n + 2) (.row true 0 1 [.int .i64 p.params.length])) (fun i => col i = 6) (.slice (some ⟨pq, 0, none⟩) T.params.length T.params.length) T.params :=
      repInt.G_move kAll (fun i hi hlt => ⟨hi, fun e => by
        have := hX i (by omega)
        rcases e with e | e | e | e
        · omega
        · have := (hvl _ e).2; omega
        · omega
        · omega⟩) hT6.g2
    obtain ⟨R10, e10, G10, k10, n10⟩ := repInt.G_appAt tf_int G9 (r := K6.n + 3) (xid := K6.n + 2) (xc := 1) (by simp; omega) (fun h => by have := cz (K6.n + 3) (by omega); omega) (by have := hok.p; have := hok.q; omega) (a := p.params.length) (c := [.int .i64 p.params.length]) (Heap.get_set_self _ _ (by omega)) rfl
    have t10 : tid < R10.n := by simp at n10; omega
    have g010 : R10.get tid = _ := k10.at (k9.at g08 (by simp) (by omega)) (by simp) (fun h => by
      rcases h with h | h
      · have : pq = tid := h; have := hT.tc; rw [‹pq = tid›] at cpq; omega
      · omega)
    have gP9 : (R8.set (K6.n + 2) (.row true 0 1 [.int .i64 p.params.length])).get K.n = _ := k9.at gP8 (by simp) (by omega)
    have g09 : (R8.set (K6.n + 2) (.row true 0 1 [.int .i64 p.params.length])).get tid = _ := k9.at g08 (by simp) (by omega)
    have z1 : ¬ tid = lq := fun e => by have := hT.tc; rw [e] at this; omega
    have z2 : ¬ tid = pq := fun e => by have := hT.tc; rw [e] at this; omega
    have z3 : ¬ lq = pq := fun e => by rw [e] at clq; omega
    have z4 : tid < K.n := l0.1
    have z5 : ¬ K.n = tid := by omega
    simp [ht, u0, u3, e7, e8, g08, gP8, e9, gP9, g09, e10, g010, t10]
    have gF10 : R10.get (K.n + 1) = .row true 0 1 [.int .i64 0, .int .i64 0] := k10.at (k9.at (k8.at (k7.at (kR.at gF6 (by simp) (fun h => h)) (by simp) (by omega)) (by simp) (fun h => by
      rcases h with h | h
      · have : lq = K.n + 1 := h; omega
      · omega)) (by simp) (by omega)) (by simp) (fun h => by
      rcases h with h | h
      · have : pq = K.n + 1 := h; omega
      · omega)
    have ne : ∀ {a b : Nat}, a < b → (a = b) = False ∧ (b = a) = False := fun h => ⟨eq_false (by omega), eq_false (by omega)⟩
    have a1 := ne (show tid < K.n by omega)
    have a2 := ne (show tid < K6.n by omega)
    have a3 := ne (show tid < K6.n + 1 by omega)
    have a4 := ne (show tid < K6.n + 2 by omega)
    have a5 := ne (show tid < K6.n + 2 + 1 by omega)
    have b1 := ne (show lq < K.n by omega)
    have b2 := ne (show lq < K6.n by omega)
    have b3 := ne (show lq < K6.n + 1 by omega)
    have b4 := ne (show lq < K6.n + 2 by omega)
    have b5 := ne (show lq < K6.n + 2 + 1 by omega)
    have c1 := ne (show pq < K.n by omega)
    have c2 := ne (show pq < K6.n by omega)
    have c3 := ne (show pq < K6.n + 1 by omega)
    have c4 := ne (show pq < K6.n + 2 by omega)
    have c5 := ne (show pq < K6.n + 2 + 1 by omega)
    have d1 := ne (show K.n < K6.n by omega)
    have d2 := ne (show K.n < K6.n + 1 by omega)
    have d3 := ne (show K.n < K6.n + 2 by omega)
    have d4 := ne (show K.n < K6.n + 2 + 1 by omega)
    have f1 : (lq = tid) = False := eq_false fun e => z1 e.symm
    have f2 : (pq = tid) = False := eq_false fun e => z2 e.symm
    have f3 : (pq = lq) = False := eq_false fun e => z3 e.symm
    have a6 := ne (show tid < K.n + 1 by omega)
    have n10' : K.n + 1 < R10.n := Heap.lt_of_get gF10 (by simp)
    simp (config := { decide := true }) [ht, u4, gF10, a6, n10', t10, a1, a2, a3, a4, a5, b1, b2, b3, b4, b5, c1, c2, c3, c4, c5, d1, d2, d3, d4, f1, f2, f3, z1, z2, z3, List.elem_eq_mem]
    generalize hrow : AObj.row true 0 1 [Value.map (some nid), Value.map (some pid), Value.slice (some ⟨K6.n + 1, 0, none⟩) (T.locals.length + 1) (T.locals.length + 1), Value.slice (some ⟨K6.n + 3, 0, none⟩) (T.params.length + 1) (T.params.length + 1), v3, v4, v5, Value.map (some rid), Value.int IntKind.i64 T.words] = row at *
    have kF10 : Same (fun i => i = tid ∨ i = K.n + 1) R10 ((R10.set tid row).set (K.n + 1) (.row true 0 1 [.int .i64 0, .int .i64 0])) := (Same.set R10 t10 (.inl rfl) _).trans (Same.set (R10.set tid row) n10' (.inr rfl) _)
    have kF8 : Same (fun i => i = K6.n + 2 ∨ i = pq ∨ i = K6.n + 3 ∨ i = tid ∨ i = K.n + 1) R8 ((R10.set tid row).set (K.n + 1) (.row true 0 1 [.int .i64 0, .int .i64 0])) :=
      (k9.mono fun i h => .inl h).trans ((k10.mono fun i h => h.elim (fun h => .inr (.inl h.symm)) (fun h => .inr (.inr (.inl h)))).trans (kF10.mono fun i h => .inr (.inr (.inr h))))
    have kF : Same (fun i => i = tid ∨ i = lq ∨ i = pq ∨ K6.n ≤ i ∨ i = K.n + 1) K6 ((R10.set tid row).set (K.n + 1) (.row true 0 1 [.int .i64 0, .int .i64 0])) :=
      (kR.mono fun i h => h.elim).trans ((k7.mono fun i h => .inr (.inr (.inr (.inl (by omega))))).trans ((k8.mono fun i h => h.elim (fun h => .inr (.inl h.symm)) (fun h => .inr (.inr (.inr (.inl (by omega)))))).trans
        (kF8.mono fun i h => by rcases h with h | h | h | h | h <;> omega)))
    have kK : Same (fun i => col i ≠ 0) K K6 := (((k3.then_push _).then_push _).then k5 (fun i hi => hi.elim)).then k6 (fun i hi => .inr (by omega))
    have kKF : Same (fun i => col i ≠ 0) K ((R10.set tid row).set (K.n + 1) (.row true 0 1 [.int .i64 0, .int .i64 0])) :=
      kK.then kF (fun i hi => by
        have := hT.tc
        rcases hi with rfl | rfl | rfl | h | h
        · exact .inl (by omega)
        · exact .inl (by omega)
        · exact .inl (by omega)
        · exact .inr (by omega)
        · exact .inr (by omega))
    have nF : ((R10.set tid row).set (K.n + 1) (.row true 0 1 [.int .i64 0, .int .i64 0])).n = K6.n + 4 := by show R10.n = _; simp at n10; omega
    refine ⟨kKF, ⟨hok.t, hok.s, hok.c, hok.w0, hok.w1, hok.r, by simp [procT]; omega, by simp [procT]; exact hok.l, by simp [procT]; exact hok.p⟩, fun i => if i = K6.n + 1 then 5 else if i = K6.n + 3 then 6 else if i = K2.n then 5 else col i, ⟨nid, pid, rid, .slice (some ⟨K6.n + 1, 0, none⟩) (T.locals.length + 1) (T.locals.length + 1), .slice (some ⟨K6.n + 3, 0, none⟩) (T.params.length + 1) (T.params.length + 1), v3, v4, v5, ?_⟩, fun i hi => by dsimp only; rw [if_neg (by omega), if_neg (by omega), if_neg (by omega)]⟩
    have colv : ∀ i, i < K.n → (if i = K6.n + 1 then 5 else if i = K6.n + 3 then 6 else if i = K2.n then 5 else col i) = col i := fun i hi => by rw [if_neg (by omega), if_neg (by omega), if_neg (by omega)]
    have mv : ∀ {c : Nat}, c ≠ 0 → c ≠ 1 → c ≠ 5 → c ≠ 6 → ∀ i, col i = c → i < K6.n → (if i = K6.n + 1 then 5 else if i = K6.n + 3 then 6 else if i = K2.n then 5 else col i) = c ∧ ¬ (i = tid ∨ i = lq ∨ i = pq ∨ K6.n ≤ i ∨ i = K.n + 1) := fun {c} h0 h1 h5 h6 i hi hlt => by
      have hk := hX i (by omega)
      refine ⟨by rw [colv i hk]; exact hi, fun e => ?_⟩
      have := hT.tc
      rcases e with rfl | rfl | rfl | e | e
      all_goals omega
    subst hrow
    have hl0 := hT.lt
    have mvn : ∀ i, col i ≠ 0 → col i ≠ 1 → col i ≠ 5 → col i ≠ 6 → ¬ (i = tid ∨ i = lq ∨ i = pq ∨ K6.n ≤ i ∨ i = K.n + 1) := fun i h0 h1 h5 h6 => (mv h0 h1 h5 h6 i rfl (by have := hX i h0; omega)).2
    refine ⟨?_, by rw [colv _ (by omega)]; exact hT.tc, kF.at hT6.nm (by simp) (mvn _ (by have := hT.nc; omega) (by have := hT.nc; omega) (by have := hT.nc; omega) (by have := hT.nc; omega)), by rw [colv _ (by omega)]; exact hT.nc,
      kF.at hT6.pm (by simp) (mvn _ (by have := hT.pc; omega) (by have := hT.pc; omega) (by have := hT.pc; omega) (by have := hT.pc; omega)), by rw [colv _ (by omega)]; exact hT.pc,
      kF.at hT6.rm (by simp) (mvn _ (by have := hT.rc; omega) (by have := hT.rc; omega) (by have := hT.rc; omega) (by have := hT.rc; omega)), by rw [colv _ (by omega)]; exact hT.rc, ?_, ?_,
      repCel.G_move kF (mv (by omega) (by omega) (by omega) (by omega)) hT6.g3, repInt.G_move kF (mv (by omega) (by omega) (by omega) (by omega)) hT6.g4, repInt.G_move kF (mv (by omega) (by omega) (by omega) (by omega)) hT6.g5,
      fun i hi => by rw [nF] at hi; rw [if_neg (by omega), if_neg (by omega), if_neg (by omega)]; exact cz i (by omega)⟩
    · rw [Heap.get_set _ _ _ (by exact n10'), if_neg (by omega)]
      exact Heap.get_set_self _ _ t10
    · have := repLoc.G_move kF8 (S' := fun i => (if i = K6.n + 1 then 5 else if i = K6.n + 3 then 6 else if i = K2.n then 5 else col i) = 5) (fun i hi hlt => by
        rcases hi with (h | h) | h
        · have hk := hX i (by omega)
          refine ⟨by rw [colv i hk]; exact h, fun e => ?_⟩
          have := hT.tc
          rcases e with e | rfl | e | rfl | e <;> omega
        · subst h
          refine ⟨by rw [if_neg (by omega), if_neg (by omega), if_pos rfl], fun e => ?_⟩
          rcases e with e | e | e | e | e <;> omega
        · subst h
          refine ⟨by rw [if_pos rfl], fun e => ?_⟩
          rcases e with e | e | e | e | e <;> omega) G8
      simpa [procT] using this
    · have := repInt.G_move kF10 (S' := fun i => (if i = K6.n + 1 then 5 else if i = K6.n + 3 then 6 else if i = K2.n then 5 else col i) = 6) (fun i hi hlt => by
        rcases hi with h | h
        · have hk := hX i (by omega)
          refine ⟨by rw [colv i hk]; exact h, fun e => ?_⟩
          have := hT.tc
          rcases e with rfl | e <;> omega
        · subst h
          refine ⟨by rw [if_neg (by omega), if_pos rfl], fun e => ?_⟩
          rcases e with e | e <;> omega) G10
      simpa [procT] using this
end
end Go.Vm.Scope
