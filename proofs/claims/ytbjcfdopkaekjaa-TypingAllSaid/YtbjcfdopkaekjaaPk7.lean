/- What is proved: the checker's 'region', and 'stmt' of any statement. What is proved: 'caught': what a function's panic tells, or nothing. What is proved: the reference's checker of regions, of statements, of a source. What is proved: the program's 'Check': the first fault of a source, or none. What is proved: a table that was built is as the checkers need it: no procedure has a global's name, and the kinds are four. What is proved: the reader's 'branch', and with it 'Parse' of any source. What is proved: 'signalboxlaw26.alike', of any source that is no longer than may be. What is proved: strings put together, and made into bytes. What is proved: the law's 'front', 'fault' and 'alike'. What is proved: the program's 'Type': an expression's type, or what is wrong with it. What is proved: the law's 'awake'; 'TypingAll' hands back true, whatever the input. -/
import Derived.Test.YtbjcfdopkaekjaaPk6
set_option maxRecDepth 100000
set_option maxHeartbeats 4000000
set_option linter.unusedSimpArgs false
set_option linter.unusedVariables false
set_option linter.unusedSectionVars false
namespace Go.Vm.Typing
open Go Go.Proofs Go.Vm.Parse Go.Vm.Scope
attribute [local simp] repCells_succ writeAt rd_Fr toList_beq gpe gpn spe gse gsn ne_r0 ne_l0 le_s0 ne_r1 ne_l1 lt_s1 le_s1 ne_r2 ne_l2 lt_s2 le_s2 ne_r3 ne_l3 lt_s3 le_s3 ne_r4 ne_l4 lt_s4 le_s4 ne_r5 ne_l5 lt_s5 le_s5 ne_r6 ne_l6 lt_s6 le_s6 ne_r7 ne_l7 lt_s7 le_s7
theorem q_treg : quiet Try.prog (drawN Try.f98 0) = true := by decide +kernel
theorem pl_treg1 : planOf Try.prog (drawN Try.f98 1) = some [some (0, 2), some (0, 1), some (0, 1), some (0, 1), some (0, 1), none, none, none, none, none, none, none] := by decide +kernel
theorem pl_treg2 : planOf Try.prog (drawN Try.f98 2) = some [some (0, 1), none, none, none, none, none, none, none, none, none, none, none, none, none, none] := by decide +kernel
theorem ins_app {H : Heap} {S : Nat → Prop} {v : Value} {l : List ByteArray} (h : InS H S v l) (hl : l.length ≤ 100000) (x : ByteArray) :
  ∃ b' cap' K', exAppend Try.prog [111, 111] v (.slice (some ⟨H.n, 0, none⟩) 1 1) (H.push (.row true 0 1 [.string x])) = some (.slice b' (l.length + 1) cap', K') ∧ InS K' (fun i => S i ∨ H.n ≤ i) (.slice b' (l.length + 1) cap') (l ++ [x]) ∧ Same (vid v) H K' ∧ (∀ i, vid (.slice b' (l.length + 1) cap') i → vid v i ∨ H.n ≤ i) := by
 rcases h with ⟨n, rfl, rfl, rfl⟩ | ⟨id, tl, cap, cs, rfl, htl, hS, hg, hcl, hle, htk⟩
 · refine ⟨some ⟨H.n + 1, 0, none⟩, 1, (H.push (.row true 0 1 [.string x])).push (.row true 1 1 [.string x]), ?_, .inr ⟨H.n + 1, 1, 1, [.string x], rfl, Nat.le_refl _, .inr (Nat.le_succ _), ?_, rfl, Nat.le_refl _, rfl⟩, ((Same.push _ _ _).then_push _).none, ?_⟩
   · simp [exAppend, exAppendRow]
   · exact Heap.get_push_self _ _
   · rintro i hi
     have : H.n + 1 = i := hi
     exact .inr (by omega)
 · have hid : id < H.n := Heap.lt_of_get hg (by simp)
   have hg1 : (H.push (.row true 0 1 [.string x])).get id = .row true tl 1 cs := by rw [Heap.get_push_lt _ _ hid]; exact hg
   have hn1 : (H.push (.row true 0 1 [.string x])).n = H.n + 1 := rfl
   have hs1 : Same (vid (.slice (some ⟨id, 0, none⟩) l.length cap)) H (H.push (.row true 0 1 [.string x])) := (Same.push _ _ _).none
   have hv : vid (.slice (some ⟨id, 0, none⟩) l.length cap) id := rfl
   rcases Nat.lt_or_ge l.length cap with hlt | hge
   · refine ⟨some ⟨id, 0, none⟩, cap, (H.push (.row true 0 1 [.string x])).set id (.row true tl 1 (writeAt cs l.length [.string x])), ?_, .inr ⟨id, tl, cap, writeAt cs l.length [.string x], by simp, htl, .inl hS, Heap.get_set_self _ _ (Nat.lt_succ_of_lt hid), ?_, by simp; omega, ?_⟩, hs1.then_set (Nat.lt_succ_of_lt hid) (.inl hv) _, fun i hi => .inl hi⟩
     · simp [exAppend, exAppendRow, hg1, show (l.length + 1 + 200) * 16 ≤ 140737488355328 by omega, show l.length + 1 ≤ 140737488355328 by omega, hle, show l.length + 1 ≤ cap by omega, show l.length + 1 ≤ cs.length by omega]
     · simp; omega
     · rw [writeAt, ← List.append_assoc, List.take_append_of_le_length (by simp; omega), List.take_of_length_le (by simp; omega), htk]; simp
   · have : l.length = cap := by omega
     subst this
     rcases (show tl = 0 ∨ tl = 1 by omega) with rfl | rfl
     · refine ⟨some ⟨H.n + 1, 0, none⟩, l.length + 1, (H.push (.row true 0 1 [.string x])).push (.row true 1 1 ((l ++ [x]).map Value.string)), ?_, .inr ⟨H.n + 1, 1, l.length + 1, (l ++ [x]).map Value.string, by simp, Nat.le_refl _, .inr (Nat.le_succ _), Heap.get_push_self _ _, by simp, by simp, List.take_of_length_le (by simp)⟩, hs1.then_push _, ?_⟩
       · simp [exAppend, exAppendRow, hg1, show (l.length + 1 + 200) * 16 ≤ 140737488355328 by omega, show l.length + 1 ≤ 140737488355328 by omega, hcl, htk]
       · intro i hi
         have : H.n + 1 = i := hi
         exact .inr (by omega)
     · refine ⟨some ⟨H.n + 1, 0, none⟩, l.length + 1, ((H.push (.row true 0 1 [.string x])).set id .dead).push (.row true 1 1 ((l ++ [x]).map Value.string)), ?_, .inr ⟨H.n + 1, 1, l.length + 1, (l ++ [x]).map Value.string, by simp, Nat.le_refl _, .inr (Nat.le_succ _), Heap.get_push_self _ _, by simp, by simp, List.take_of_length_le (by simp)⟩, (hs1.then_set (Nat.lt_succ_of_lt hid) (.inl hv) _).then_push _, ?_⟩
       · simp [exAppend, exAppendRow, hg1, show (l.length + 1 + 200) * 16 ≤ 140737488355328 by omega, show l.length + 1 ≤ 140737488355328 by omega, hcl, htk]
       · intro i hi
         have : H.n + 1 = i := hi
         exact .inr (by omega)
theorem CT.turn {H0 K : Heap} {tid cid : Nat} {c : At} {v : Value} (h : CT H0 K tid cid c v) (x : ByteArray) : CT H0 (K.set cid (.row true 0 1 (tk4 tid c.p v x))) tid cid ⟨c.p, c.ins, x⟩ v :=
 ⟨h.kp.then_set h.lt (.inl h.hc) _, h.hc, Heap.get_set_self _ _ h.lt, h.gi.move (X := fun i => i = cid) (Same.then_set (X := fun i => i = cid) (Same.refl _ _) h.lt (.inl rfl) _) fun i hi _ => ⟨hi, hi.2⟩, h.il⟩
theorem InS.short {H : Heap} {S : Nat → Prop} {b : Option Addr} {n cap : Nat} {l : List ByteArray} {x : ByteArray} (h : InS H S (.slice b n cap) (l ++ [x])) :
  ∃ id tl cs, b = some ⟨id, 0, none⟩ ∧ n = l.length + 1 ∧ H.get id = .row true tl 1 cs ∧ cs.length = cap ∧ l.length + 1 ≤ cap ∧ S id ∧ InS H S (.slice b l.length cap) l := by
 rcases h with ⟨n, _, _, h⟩ | ⟨id, tl, cap', cs, e1, h2, h3, h4, h5, h6, h7⟩
 · simp at h
 · simp only [Value.slice.injEq] at e1
   obtain ⟨rfl, rfl, rfl⟩ := e1
   simp only [List.length_append, List.length_singleton] at h6 h7 ⊢
   refine ⟨id, tl, cs, rfl, trivial, h4, h5, h6, h3, .inr ⟨id, tl, cap, cs, rfl, h2, h3, h4, h5, by omega, ?_⟩⟩
   have e : cs.take l.length = (cs.take (l.length + 1)).take l.length := by rw [List.take_take, Nat.min_eq_left (by omega)]
   rw [e, h7, List.map_append]
   exact List.take_left' (by simp)
section
variable {E : Hooks} (hE : Plain E)
include hE
theorem c_treg (args : List Value) (H : Heap) : (run Try.prog E).call 98 args H = callB Try.prog E Try.f98 args H := call_B Try.func98 rfl (by decide +kernel) (hE.no _ rfl rfl) args H
variable {H0 : Heap} {tid cid : Nat} {R : RT} {col : Nat → Nat} {nid pid rid : Nat} {v1 v2 v3 v4 v5 : Value} {T : Tab} (hT : RTab H0 col tid nid pid rid v1 v2 v3 v4 v5 T) (ha : Scope.Agree T R) (hok : TOK T) (hgd : RGood R)
include hT ha hok hgd
theorem tregion_of {kind at_ : Int} {x : ByteArray} {e : List Ex} {body els : List Stm} {br : List Bra} {items : List Itm} (hwf : WFs (.mk kind at_ x e body els br items)) (hk10 : kind = 10)
  (hb : ∀ y ∈ body, TSt E H0 tid cid R y) : TRg E H0 tid cid R (.mk kind at_ x e body els br items) := by
 intro H c v cs S hc0 hil h hc
 have hsz : szS (.mk kind at_ x e body els br items) ≤ 100000 := by omega
 refine of_gives ?_
 simp only [RS] at hc
 obtain ⟨w1, w2, w3, w4, w5, rfl, gE, gB, gI, gb, ge⟩ := hc
 have lb : LS H0 w2 body := by
  rcases gb with h | ⟨id, tl, cs', h1, _, _, h4, h5⟩
  · exact .inl h
  · exact .inr ⟨_, id, tl, cs', h1, h4, h5⟩
 have le : LS H0 w3 els := by
  rcases ge with h | ⟨id, tl, cs', h1, _, _, h4, h5⟩
  · exact .inl h
  · exact .inr ⟨_, id, tl, cs', h1, h4, h5⟩
 clear gb ge
 obtain ⟨b1, rfl⟩ := repEx.G_slice gE
 obtain ⟨b2, rfl⟩ := lb.slice
 obtain ⟨b3, rfl⟩ := le.slice
 obtain ⟨b4, rfl⟩ := repBra.G_slice gB
 obtain ⟨b5, rfl⟩ := repItm.G_slice gI
 simp only [WFs] at hwf
 obtain ⟨hst, wfe, wfb, wfl, wfr, wfi⟩ := hwf
 have hst' : stB R c.p c.ins (.mk kind at_ x e body els br items) = (mustB R c.p x at_ 3).or ((if hasP c.ins x = true then some (22, at_) else none).or ((wantB R ⟨c.p, c.ins ++ [x], x⟩ 2 e).or (stsB R c.p (c.ins ++ [x]) body))) := by
  subst hk10
  simp [stB]
 rw [hst']
 clear hst'
 have kp : Same (fun _ => False) H (H.push (.row true 0 1 [.int .i64 kind, .int .i64 at_, .string x, .slice b1 e.length e.length, .slice b2 body.length body.length, .slice b3 els.length els.length, .slice b4 br.length br.length, .slice b5 items.length items.length])) := Same.push _ _ _
 have h1 := h.keep kp
 have hlt := h.lt
 have hne : H.n ≠ cid := by omega
 have g3 : (H.push (.row true 0 1 [.int .i64 kind, .int .i64 at_, .string x, .slice b1 e.length e.length, .slice b2 body.length body.length, .slice b3 els.length els.length, .slice b4 br.length br.length, .slice b5 items.length items.length])).get H.n = .row true 0 1 [.int .i64 kind, .int .i64 at_, .string x, .slice b1 e.length e.length, .slice b2 body.length body.length, .slice b3 els.length els.length, .slice b4 br.length br.length, .slice b5 items.length items.length] := Heap.get_push_self _ _
 have st : ∀ {f : Option Flt} {K : Heap}, Same (fun _ => False) (H.push (.row true 0 1 [.int .i64 kind, .int .i64 at_, .string x, .slice b1 e.length e.length, .slice b2 body.length body.length, .slice b3 els.length els.length, .slice b4 br.length br.length, .slice b5 items.length items.length])) K → RetT H0 H tid cid c v f K := fun k => RetT.quiet h (kp.trans k)
 generalize hH1 : H.push (.row true 0 1 [.int .i64 kind, .int .i64 at_, .string x, .slice b1 e.length e.length, .slice b2 body.length body.length, .slice b3 els.length els.length, .slice b4 br.length br.length, .slice b5 items.length items.length]) = H1 at *
 have nbody : (c.ins ++ [x]).length + szSs body ≤ 100000 := by simp only [szS] at hil; simp; omega
 have ne : e.length ≤ 100000 := by have := szXs_len e; simp only [szS] at hsz; omega
 rw [c_treg hE, callB, bodyOf]
 obtain ⟨o1, K1, e1, k1, ho1⟩ := tmust_run hE hT ha hok hgd h1 x at_ 3 (.inr (by decide))
 subst ho1
 cases hv : mustB R c.p x at_ 3 with
 | some q =>
  rw [hv] at e1
  simp [Try.f98, hH1, g3, e1, outF]
  exact st k1
 | none =>
  rw [hv] at e1
  have g31 := k1.at g3 (by simp) (fun h => h)
  have c1 := h1.keep k1
  have o1 := c1.obj
  simp only [tk4] at o1
  have e2 := tcontains_run hE c1.gi c1.il x
  obtain ⟨b, cap, rfl⟩ := c1.gi.slice
  have q := q_treg
  simp [Try.f98, hH1, g3, e1, Option.none_or]
  refine region_quiet (by exact q) ?_
  cases hp : hasP c.ins x with
  | true =>
   rw [hp] at e2
   have e3 := tfail_run hE 22 at_ K1
   simp [hH1, g3, e1, g31, o1, e2, e3, outF]
   exact st k1
  | false =>
   rw [hp] at e2
   simp [hH1, g3, e1, g31, o1, e2]
   obtain ⟨b', cap', K2, e4, i4, k4, hv4⟩ := ins_app c1.gi c1.il x
   have hcid : cid < K1.n := c1.lt
   have hcid2 : cid < K2.n := Nat.lt_of_lt_of_le hcid k4.n
   have o2 := k4.at o1 (by simp) (fun z => (c1.vid_lt z).2.2 rfl)
   have g32 := k4.at g31 (by simp) (fun z => absurd (h.vid_lt z).1 (Nat.lt_irrefl _))
   have g33 : ∀ o, (K2.set cid o).get H.n = _ := fun o => (Heap.get_set_ne _ _ _ hcid2 _ hne).trans g32
   have o3 : ∀ o, (K2.set cid o).get cid = o := fun o => Heap.get_set_self _ _ hcid2
   have s3 : ∀ a b, (K2.set cid a).set cid b = K2.set cid b := fun a b => Heap.set_set _ _ _ _
   have o1p : ∀ o, (K1.push o).get cid = _ := fun o => (Heap.get_push_lt K1 o hcid).trans o1
   refine region_plan (by exact pl_treg1) ?_
   simp [drawF, hH1, g3, e1, g31, o1, o1p, e4, o2, g32, g33, o3, s3, hc0]
   have kB : Same (fun i => i = cid ∨ vid (.slice b c.ins.length cap) i) H K2 := (kp.trans k1).none.then k4 fun i hi => .inl (.inr hi)
   have c3 : CT H0 (K2.set cid (.row true 0 1 (tk4 tid c.p (.slice b' (c.ins.length + 1) cap') x))) tid cid ⟨c.p, c.ins ++ [x], x⟩ (.slice b' (c.ins.length + 1) cap') := by
    refine ⟨(c1.kp.then k4 fun i hi => .inl (c1.vid_lt hi).2.1).then_set hcid2 (.inl c1.hc) _, c1.hc, o3 _, i4.move (X := fun i => i = cid) (Same.then_set (X := fun i => i = cid) (Same.refl _ _) hcid2 (.inl rfl) _) ?_, by simp; simp only [szS] at hil; omega⟩
    rintro i (hi | hi) _
    · exact ⟨hi, hi.2⟩
    · have := c1.hc
      exact ⟨⟨by omega, by omega⟩, by omega⟩
   have kB3 := kB.then_set hcid2 (.inl (.inl rfl)) (.row true 0 1 (tk4 tid c.p (.slice b' (c.ins.length + 1) cap') x))
   have g34 := g33 (.row true 0 1 (tk4 tid c.p (.slice b' (c.ins.length + 1) cap') x))
   obtain ⟨K5, e5, k5⟩ := twant_run hE hT ha hok hgd c3 2 (LX.of gE) ne wfe
   have c5 := c3.keep k5
   have g35 := k5.at g34 (by simp) (fun h => h)
   have kB5 := kB3.trans k5.none
   have o5 := c5.obj
   simp only [tk4] at e5 o5
   clear c3
   cases hw : wantB R ⟨c.p, c.ins ++ [x], x⟩ 2 e with
   | some q =>
    rw [hw] at e5
    simp only [outF] at e5
    simp [e5, outF]
    exact ⟨kB5, fun z => by cases z⟩
   | none =>
    rw [hw] at e5
    simp only [outF] at e5
    have c6 := c5.turn ByteArray.empty
    have kB6 := kB5.then_set c5.lt (.inl (.inl rfl)) (.row true 0 1 (tk4 tid c.p (.slice b' (c.ins.length + 1) cap') ByteArray.empty))
    have g36 := (Heap.get_set_ne _ _ (.row true 0 1 (tk4 tid c.p (.slice b' (c.ins.length + 1) cap') ByteArray.empty)) c5.lt _ hne).trans g35
    obtain ⟨K7, e7, r7⟩ := tstmts_of hE rfl c6 lb nbody hb
    simp only [tk4] at e7 r7 g36 kB6
    have kB7 := kB6.then r7.1 fun i hi => by
     rcases hi with hi | hi
     · exact .inl (.inl hi)
     · rcases hv4 i hi with hi | hi
       · exact .inl (.inr hi)
       · have := (kp.trans k1).n
         exact .inr (by omega)
    cases hs : stsB R c.p (c.ins ++ [x]) body with
    | some q =>
     rw [hs] at e7
     simp only [outF] at e7
     simp [e5, o5, g36, e7, outF, show (⟨#[]⟩ : ByteArray) = ByteArray.empty from rfl]
     exact ⟨kB7, fun z => by cases z⟩
    | none =>
     rw [hs] at e7 r7
     simp only [outF] at e7
     obtain ⟨v7, c7, hv7⟩ := r7.2 rfl
     have o7 := c7.obj
     obtain ⟨b7, cap7, rfl⟩ := c7.gi.slice
     obtain ⟨id7, tl7, cs7, rfl, hn7, hg7, hcl7, hle7, hS7, hi7⟩ := c7.gi.short
     simp only [tk4] at o7
     simp [e5, o5, g36, e7, outF, show (⟨#[]⟩ : ByteArray) = ByteArray.empty from rfl]
     have hil7 : c.ins.length ≤ 100000 := h.il
     have w7 : IntKind.i64.wrap (c.ins.length : Int) = c.ins.length := wrap64 _ (by omega) (by omega)
     have cut7 : cutA id7 0 (c.ins.length + 1) cap7 1 none (some (.int .i64 (c.ins.length : Int))) none K7 = some (.slice (some ⟨id7, 0, none⟩) c.ins.length cap7, K7) := by
      have h1 : (c.ins.length : Int) ≤ cap7 := by omega
      have h2 : ¬ (cap7 : Int) = 0 := by omega
      cases tl7 <;> simp [cutA, boundOf, hg7, h1, h2]
     have o8 : ∀ o, (K7.set cid o).get cid = o := fun o => Heap.get_set_self _ _ c7.lt
     refine region_plan (by exact pl_treg2) ?_
     simp [drawF, o7, w7, cut7, o8]
     have c8 : CT H0 (K7.set cid (.row true 0 1 (tk4 tid c.p (.slice (some ⟨id7, 0, none⟩) c.ins.length cap7) ByteArray.empty))) tid cid c (.slice (some ⟨id7, 0, none⟩) c.ins.length cap7) := by
      refine ⟨c7.kp.then_set c7.lt (.inl c7.hc) _, c7.hc, ?_, hi7.move (X := fun i => i = cid) (Same.then_set (X := fun i => i = cid) (Same.refl _ _) c7.lt (.inl rfl) _) fun i hi _ => ⟨hi, hi.2⟩, hil7⟩
      rw [o8, hc0]
     refine ⟨kB7.then_set c7.lt (.inl (.inl rfl)) _, fun _ => ⟨_, c8, fun i hi => ?_⟩⟩
     have hi : vid (.slice (some ⟨id7, 0, none⟩) (c.ins.length + 1) cap7) i := hi
     rcases hv7 i hi with hi | hi
     · rcases hv4 i hi with hi | hi
       · exact .inl hi
       · have := (kp.trans k1).n
         exact .inr (by omega)
     · have := kB5.n
       have e : ∀ o, (K5.set cid o).n = K5.n := fun o => rfl
       rw [e] at hi
       exact .inr (by omega)
theorem tstmt_all : ∀ (n : Nat) (y : Stm), SizeOf.sizeOf y < n → WFs y → TSt E H0 tid cid R y := by
 intro n
 induction n with
 | zero => intro y hy; exact absurd hy (Nat.not_lt_zero _)
 | succ n ih =>
  rintro ⟨kind, at_, x, e, body, els, br, items⟩ hy hwf
  have hwf' := hwf
  simp only [WFs] at hwf'
  simp only [Stm.mk.sizeOf_spec] at hy
  have hb : ∀ z ∈ body, TSt E H0 tid cid R z := fun z hz => ih z (by have := List.sizeOf_lt_of_mem hz; omega) (hwf'.2.2.1.mem z hz)
  have he : ∀ z ∈ els, TSt E H0 tid cid R z := fun z hz => ih z (by have := List.sizeOf_lt_of_mem hz; omega) (hwf'.2.2.2.1.mem z hz)
  have hk10 : kind = 10 → TRg E H0 tid cid R (.mk kind at_ x e body els br items) := by
   intro hk H c v cs S h1 h2 h3 h4
   exact tregion_of hE hT ha hok hgd hwf hk hb h1 h2 h3 h4
  intro H c v cs S h1 h2 h3 h4
  exact tstmt_of hE hT ha hok hgd hwf hb he hk10 h1 h2 h3 h4
theorem tstmts_run {H : Heap} {c : At} {v : Value} (hc : c.cond = ByteArray.empty) (h : CT H0 H tid cid c v) {w : Value} {l : List Stm} (gl : LS H0 w l) (hil : c.ins.length + szSs l ≤ 100000) (hwf : WFss l) :
  ∃ H', (run Try.prog E).call 62 [.pointer (some ⟨cid, 0, none⟩), w] H = some (outF (stsB R c.p c.ins l), H') ∧ RetT H0 H tid cid c v (stsB R c.p c.ins l) H' :=
 tstmts_of hE hc h gl hil fun y hy => tstmt_all hE hT ha hok hgd _ y (Nat.lt_succ_self _) (hwf.mem y hy)
end
end Go.Vm.Typing
namespace Go.Vm
open Go Go.Proofs
variable {P : Program} {E : Hooks}
theorem slots_Fr (fn : Func) (args : List Value) : slotsAt fn args = Fr (Bs fn.ntmps args) [] := by
 unfold Fr Bs
 rfl
theorem catRun_gives {q : CatQ} {args : List Value} {v : Value} {H : Heap} {Q : Heap → Prop}
  (h : Ends (exList P (run P E).call q.ops.toList (q.ops.toList.drop 1) ⟨putA (Fr (Bs q.fn.ntmps args) []) (some q.d) v, []⟩ H) fun e s H1 => e = .normal ∧ s.ds = [] ∧ Ends ((run P E).code q.rest ⟨s.t, []⟩ H1) fun e s H2 => (e = .normal ∨ e = .ret) ∧ s.ds = [] ∧ Q H2) :
  ∃ H2, catRun P (run P E) q args v H = some H2 ∧ Q H2 := by
 obtain ⟨e, ⟨t, ds⟩, H1, e1, rfl, hds, e2, ⟨t2, ds2⟩, H2, e3, he, hds2, hQ⟩ := h
 simp only at hds hds2 e3
 subst hds
 subst hds2
 refine ⟨H2, ?_, hQ⟩
 unfold catRun
 rw [slots_Fr, e1]
 simp only []
 rw [e3]
 rcases he with rfl | rfl <;> rfl
theorem bodyQ_pan_cat {f : FuncId} {q : CatQ} (hq : catFn P f = some q) (hE : E.has f = false) {r : Runs} {rs : List ResultVar} {Q : Out → Heap → Prop} {v : Value} {t args : List Value} {H H2 : Heap} (h : catRun P r q args v H = some H2) :
  bodyQ P E r rs Q (.pan v) ⟨t, [(f, args)]⟩ H = resQ Q H2 (exResults P rs t H2) := by
 unfold bodyQ catAt
 simp only [hE, hq, h]
theorem bodyQ_ret_cat {f : FuncId} {q : CatQ} (hq : catFn P f = some q) (hE : E.has f = false) {r : Runs} {rs : List ResultVar} {Q : Out → Heap → Prop} {t args : List Value} {H H2 : Heap} (h : catRun P r q args .nilIface H = some H2) :
  bodyQ P E r rs Q .ret ⟨t, [(f, args)]⟩ H = resQ Q H2 (exResults P rs t H2) := by
 have hl : exLeave P E r [(f, args)] H = some H2 := by
  unfold catFn at hq
  cases hf : P.funcs[f]? with
  | none => rw [hf] at hq; cases hq
  | some fn =>
   rw [hf] at hq
   simp only at hq
   cases hb : fn.body with
   | none => rw [hb] at hq; cases hq
   | some c =>
    rw [hb] at hq
    simp only at hq
    cases hi : isRec P fn c with
    | true => rw [hi] at hq; cases hq
    | false =>
     rw [hi] at hq
     simp only at hq
     simp only [exLeave, exLate, hE, hf, hb, hi, hq, h]
 unfold bodyQ catAt
 simp only [hl]
end Go.Vm
namespace Go.Vm.Typing
open Go Go.Proofs Go.Vm.Parse Go.Vm.Scope
attribute [local simp] repCells_succ writeAt rd_Fr toList_beq gpe gpn spe gse gsn ne_r0 ne_l0 le_s0 ne_r1 ne_l1 lt_s1 le_s1 ne_r2 ne_l2 lt_s2 le_s2 ne_r3 ne_l3 lt_s3 le_s3 ne_r4 ne_l4 lt_s4 le_s4 ne_r5 ne_l5 lt_s5 le_s5 ne_r6 ne_l6 lt_s6 le_s6 ne_r7 ne_l7 lt_s7 le_s7
noncomputable def qCat : CatQ := match Try.f79.body with
 | some (.seq (.region _ ops _) rest) => ⟨Try.f79, ops, 4, rest⟩
 | _ => ⟨Try.f79, #[], 0, .skip⟩
theorem qCat_eq : catFn Try.prog 79 = some qCat := by kernel_rfl
theorem as_flt (q : Flt) : asA Try.prog (some (fltV q)) 20 32 true = some (.tuple #[.agg ⟨[.int .i64 q.1, .int .i64 q.2]⟩, .bool true]) := by kernel_rfl
theorem as_nil : asA Try.prog (some .nilIface) 20 32 true = some (.tuple #[.agg ⟨[.int .i64 0, .int .i64 0]⟩, .bool false]) := by kernel_rfl
section
variable {E : Hooks} (hE : Plain E)
include hE
theorem caught1_run {H : Heap} {i : Nat} (g : H.get i = .row true 0 1 [.int .i64 0, .int .i64 0]) (f : Option Flt) :
  ∃ H', catRun Try.prog (run Try.prog E) qCat [.pointer (some ⟨i, 0, none⟩)] (match f with | some q => fltV q | none => .nilIface) H = some H' ∧ Same (fun j => j = i) H H' ∧ H'.get i = .row true 0 1 [.int .i64 (fc f), .int .i64 (fa f)] := by
 have hi : i < H.n := Heap.lt_of_get g (by simp)
 refine catRun_gives (Q := fun H' => Same (fun j => j = i) H H' ∧ H'.get i = .row true 0 1 [.int .i64 (fc f), .int .i64 (fa f)]) ?_
 cases f with
 | none =>
  have a := as_nil
  simp only []
  simp [qCat, Try.f79, a]
  refine ⟨(Same.push (fun _ => False) H _).none, ?_⟩
  rw [Heap.get_push_lt _ _ hi]
  exact g
 | some q =>
  have a := as_flt q
  have g1 : ∀ o, (H.push o).get i = .row true 0 1 [.int .i64 0, .int .i64 0] := fun o => by rw [Heap.get_push_lt _ _ hi]; exact g
  simp only []
  simp [qCat, Try.f79, a, g1]
  refine ⟨Same.then_set (X := fun j => j = i) ((Same.push (fun _ => False) H _).none) (Nat.lt_succ_of_lt hi) (.inl rfl) _, ?_⟩
  exact Heap.get_set_self _ _ (Nat.lt_succ_of_lt hi)
theorem c_caught (args : List Value) (H : Heap) : (run Try.prog E).call 60 args H = callB Try.prog E Try.f60 args H := call_B Try.func60 rfl (by decide +kernel) (hE.no _ rfl rfl) args H
theorem tcaught_run {X : Nat → Prop} {g : FuncId} {bs : List Value} {H K : Heap} {f : Option Flt} (hc : (run Try.prog E).call g bs (H.push (.row true 0 1 [.int .i64 0, .int .i64 0])) = some (outF f, K)) (hK : Same X (H.push (.row true 0 1 [.int .i64 0, .int .i64 0])) K) (hX : ∀ i, X i → i < H.n) :
  ∃ H', (run Try.prog E).call 60 [.func (.func g) ⟨[]⟩ ⟨bs⟩] H = some (.val (.agg ⟨[.int .i64 (fc f), .int .i64 (fa f)]⟩), H') ∧ Same X H H' ∧ Same (fun i => i = H.n) K H' := by
 refine of_gives ?_
 rw [c_caught hE, callB, bodyOf]
 have gK := hK.at (Heap.get_push_self H (.row true 0 1 [.int .i64 0, .int .i64 0])) (by simp) (fun h => Nat.lt_irrefl _ (hX _ h))
 have kHK : Same X H K := Same.trans (Same.push (fun _ => False) H _).none hK
 have hn : H.n < K.n := Heap.lt_of_get gK (by simp)
 have hEc : E.has 79 = false := hE.no _ rfl rfl
 cases f with
 | none =>
  simp only [outF] at hc
  simp [Try.f60, hc, exDefer, gK]
  have gK2 : (K.set H.n (.row true 0 1 [.int .i64 0, .int .i64 0])).get H.n = .row true 0 1 [.int .i64 0, .int .i64 0] := Heap.get_set_self _ _ hn
  have kK2 : Same X H (K.set H.n (.row true 0 1 [.int .i64 0, .int .i64 0])) := kHK.then_set hn (.inr (Nat.le_refl _)) _
  obtain ⟨H2, e2, k2, g2⟩ := caught1_run hE gK2 none
  rw [bodyQ_ret_cat qCat_eq hEc e2]
  simp [g2]
  exact ⟨kK2.then k2 fun i hi => .inr (Nat.le_of_eq hi.symm), (Same.set (X := fun i => i = H.n) K hn rfl _).trans k2⟩
 | some q =>
  simp only [outF] at hc
  simp [Try.f60, hc, exDefer]
  obtain ⟨H2, e2, k2, g2⟩ := caught1_run hE gK (some q)
  rw [bodyQ_pan_cat qCat_eq hEc e2]
  simp [g2]
  exact ⟨kHK.then k2 fun i hi => .inr (Nat.le_of_eq hi.symm), k2⟩
end
theorem q_kreg2 : quiet Try.prog (drawN Try.f104 0) = true := by decide +kernel
theorem no_kreg6 : planOf Try.prog (drawN Try.f104 1) = none := by decide +kernel
theorem la_kreg6 : lateAt (drawN Try.f104 1) = none := by decide +kernel
theorem pre_kreg6 : preOf (drawN Try.f104 1) = [0, 0, 0, 4, 12, 28, 62, 0, 128, 384, 1022, 2047, 4095, 8191] := by decide +kernel
theorem ok_kreg6 : freeOK (drawN Try.f104 1) [0, 0, 0, 4, 12, 28, 62, 0, 128, 384, 1022, 2047, 4095, 8191] = true := by decide +kernel
theorem ne_kreg6 : needAll (drawN Try.f104 1) = 4 := by decide +kernel
theorem copyAt {P : Program} {t : TypeId} (T : TF P t 1) {H : Heap} {S : Nat → Prop} {v : Value} {l : List ByteArray} (g : repStr.G H S v l) {r0 r : Nat} (hr : r < H.n) (h0 : H.get r0 = .row true 0 1 []) (hne : r0 ≠ r) (hl : l.length ≤ 100000) :
  ∃ b H', (b = r0 ∨ b = r) ∧ exAppendAt P [t, t] (.slice (some ⟨r0, 0, none⟩) 0 0) v r H = some (.slice (some ⟨b, 0, none⟩) l.length l.length, H') ∧ repStr.G H' (fun i => i = r0 ∨ i = r) (.slice (some ⟨b, 0, none⟩) l.length l.length) l ∧ Same (fun i => i = r) H H' ∧ H'.n = H.n := by
 obtain ⟨cs, hL, hc, bb, rfl⟩ := repStr.G_cells g
 have hlen := repStr.L_len hL
 simp only [repStr, Nat.mul_one] at hlen hc
 obtain ⟨e, b, z, h1, h2, h3, h4, h5, h6, h7, h8⟩ := T.ok
 have hb : (l.length + 200) * b ≤ 140737488355328 := by
  have : (l.length + 200) * b ≤ (100000 + 200) * 1000 := Nat.mul_le_mul (by omega) h4
  omega
 by_cases hn : l.length = 0
 · have : l = [] := List.eq_nil_of_length_eq_zero hn
   subst this
   refine ⟨r0, H, .inl rfl, ?_, .inr ⟨r0, 0, [], rfl, by omega, .inl rfl, h0, rfl⟩, Same.refl _ _, rfl⟩
   simp only [List.length_nil] at hc hb ⊢
   simp only [exAppendAt, h1, h8, exAppendRow, h2, h3, h5, lenA, hc]
   simp [h7, h6]
   omega
 · refine ⟨r, H.set r (.row true 1 1 cs), .inr rfl, ?_, ?_, Same.set (X := fun i => i = r) H hr rfl _, rfl⟩
   · simp only [exAppendAt, h1, h8, exAppendRow, h2, h3, h5, lenA, hc, h0]
     simp [h7, h6, hn, hb, Heap.pushAt_lt hr]
     omega
   · refine .inr ⟨r, 1, cs, rfl, by omega, .inr rfl, Heap.get_set_self _ _ hr, ?_⟩
     exact Rep.Pure.L (fun _ _ _ _ _ _ h => h) hL
section
variable {E : Hooks} (hE : Plain E)
include hE
variable {H0 : Heap} {rtid cid : Nat} {R : RT}
variable {col : Nat → Nat} {v1 v2 v3 v4 v5 v6 : Value} (hR : RRef H0 col rtid v1 v2 v3 v4 v5 v6 R) (hok : ROK R) (hgd : RGood R)
include hR hok hgd
theorem kregion_of {at_ : Int} {x : ByteArray} {e : List Ex} {body els : List Stm} {br : List Bra} {items : List Itm} (hwf : WFs (.mk 10 at_ x e body els br items))
  (hb : ∀ y ∈ body, KSt E H0 rtid cid R y) : KRg E H0 rtid cid R (.mk 10 at_ x e body els br items) := by
 intro H c v f cs S hc0 hil h hc
 refine of_gives ?_
 simp only [RS] at hc
 obtain ⟨w1, w2, w3, w4, w5, rfl, gE, gB, gI, gb, ge⟩ := hc
 have lb : LS H0 w2 body := by
  rcases gb with h | ⟨id, tl, cs', h1, _, _, h4, h5⟩
  · exact .inl h
  · exact .inr ⟨_, id, tl, cs', h1, h4, h5⟩
 have le : LS H0 w3 els := by
  rcases ge with h | ⟨id, tl, cs', h1, _, _, h4, h5⟩
  · exact .inl h
  · exact .inr ⟨_, id, tl, cs', h1, h4, h5⟩
 clear gb ge
 obtain ⟨b1, rfl⟩ := repEx.G_slice gE
 obtain ⟨b2, rfl⟩ := lb.slice
 obtain ⟨b3, rfl⟩ := le.slice
 obtain ⟨b4, rfl⟩ := repBra.G_slice gB
 obtain ⟨b5, rfl⟩ := repItm.G_slice gI
 simp only [WFs] at hwf
 obtain ⟨hst, wfe, wfb, _⟩ := hwf
 have he10 := hst.e.2.2.2 rfl
 have nbody : (c.ins ++ [x]).length + szSs body ≤ 100000 := by simp only [szS] at hil; simp; omega
 have kp : Same (fun _ => False) H (H.push (.row true 0 1 [.int .i64 10, .int .i64 at_, .string x, .slice b1 e.length e.length, .slice b2 body.length body.length, .slice b3 els.length els.length, .slice b4 br.length br.length, .slice b5 items.length items.length])) := Same.push _ _ _
 have h1 := h.keep kp
 have hlt := h.lt
 have hne : H.n ≠ cid := by omega
 have g3 : (H.push (.row true 0 1 [.int .i64 10, .int .i64 at_, .string x, .slice b1 e.length e.length, .slice b2 body.length body.length, .slice b3 els.length els.length, .slice b4 br.length br.length, .slice b5 items.length items.length])).get H.n = .row true 0 1 [.int .i64 10, .int .i64 at_, .string x, .slice b1 e.length e.length, .slice b2 body.length body.length, .slice b3 els.length els.length, .slice b4 br.length br.length, .slice b5 items.length items.length] := Heap.get_push_self _ _
 generalize hH1 : H.push (.row true 0 1 [.int .i64 10, .int .i64 at_, .string x, .slice b1 e.length e.length, .slice b2 body.length body.length, .slice b3 els.length els.length, .slice b4 br.length br.length, .slice b5 items.length items.length]) = H1 at *
 obtain ⟨K1, e1, r1⟩ := kglobal_run hE hR hok hgd h1 x at_ 3 (by decide)
 rw [if_neg (by decide)] at r1
 have r1' : RetC H0 H1 rtid cid c v (f.or (mustB R c.p x at_ 3)) K1 := r1
 have g3a := r1.at g3 (by simp) hne
 have hres : f.or (stB R c.p c.ins (.mk 10 at_ x e body els br items)) = (f.or (mustB R c.p x at_ 3)).or ((if hasP c.ins x = true then some (22, at_) else none).or ((wantB R ⟨c.p, c.ins ++ [x], x⟩ 2 e).or (stsB R c.p (c.ins ++ [x]) body))) := by
  simp only [stB]
  simp [Option.or_assoc]
 rw [hres]
 generalize f.or (mustB R c.p x at_ 3) = g at *
 obtain ⟨vb, rfl⟩ := repStr.G_slice h.gi
 have gc1 := r1'.2.obj
 simp only [ck6] at gc1
 have eh := hasText_run hE r1'.2.gi (by have := h.il; omega) x
 rw [c_kregion hE, callB, bodyOf]
 simp [Try.f104, hH1, g3, e1]
 refine region_quiet (by exact q_kreg2) ?_
 simp [gc1, g3a, eh]
 by_cases hh : hasP c.ins x = true
 · obtain ⟨K2, e2, r2⟩ := kfault_run hE r1'.2 22 at_ (by decide)
   have eb := kbad_run hE r2.2
   have hs : (g.or (some (22, at_))).isSome = true := by cases g <;> rfl
   rw [hs] at eb
   simp [hh, g3a, e2, eb]
   have := (r1'.before kp).then r2
   cases g with
   | none => simpa using this
   | some q => simpa using this
 · have eb := kbad_run hE r1'.2
   cases g with
   | some q =>
    simp [hh, eb]
    simpa using r1'.before kp
   | none =>
    simp [hh, eb, gc1]
    have hcl := r1'.2.lt
    have hHn := Heap.lt_of_get g3a (by simp)
    refine ends_cut (fun t' K' => (t'.length = 67 ∧ rd t' 0 = .pointer (some ⟨cid, 0, none⟩) ∧ rd t' 3 = .pointer (some ⟨H.n, 0, none⟩) ∧ rd t' 4 = .slice vb c.ins.length c.ins.length) ∧ Same (fun i => i = cid) K1 K' ∧ CR H0 K' rtid cid ⟨c.p, c.ins ++ [x], c.cond⟩ (.slice (some ⟨K1.n + 3, 0, none⟩) (c.ins.length + 1) (c.ins.length + 1)) none) ?_ ?_
    · refine region_free (by exact no_kreg6) (by exact la_kreg6) (by exact pre_kreg6) (by exact ok_kreg6) (by exact ne_kreg6) ?_
      simp [gc1, g3a]
      have kR : Same (fun _ => False) K1 ((((K1.push .dead).push .dead).push .dead).push .dead) := (((Same.push _ _ _).then_push _).then_push _).then_push _
      have nR : ((((K1.push .dead).push .dead).push .dead).push .dead).n = K1.n + 4 := rfl
      generalize hRR : (((K1.push .dead).push .dead).push .dead).push .dead = Q at *
      have e7 : exBuildSliceAt Try.prog 111 0 [] K1.n Q = some (.slice (some ⟨K1.n, 0, none⟩) 0 0, Q.set K1.n (.row true 0 1 [])) := by
       simp [exBuildSliceAt, Heap.pushAt_lt (show K1.n < Q.n by omega)]
       rfl
      have k7 : Same (fun i => i = K1.n) Q (Q.set K1.n (.row true 0 1 [])) := Same.set (X := fun i => i = K1.n) Q (by omega) rfl _
      have g07 : (Q.set K1.n (.row true 0 1 [])).get K1.n = .row true 0 1 [] := Heap.get_set_self _ _ (by omega)
      have n7 : (Q.set K1.n (.row true 0 1 [])).n = K1.n + 4 := nR
      generalize Q.set K1.n (.row true 0 1 []) = Q7 at *
      have kA : Same (fun i => i = K1.n) K1 Q7 := (Same.none kR).trans k7
      have gc7 := kA.at gc1 (by simp) (by omega)
      obtain ⟨b, Q8, hb8, e8, G8, k8, n8⟩ := copyAt tf_str (S := fun _ => True) (repStr.G_move kA (fun i hi hl => ⟨trivial, by omega⟩) r1'.2.gi) (r0 := K1.n) (r := K1.n + 1) (by omega) g07 (by omega) h.il
      have g38 := k8.at (kA.at g3a (by simp) (by omega)) (by simp) (by omega)
      have e9 : exBuildSliceAt Try.prog 111 1 [(0, .string x)] (K1.n + 2) Q8 = some (.slice (some ⟨K1.n + 2, 0, none⟩) 1 1, Q8.set (K1.n + 2) (.row true 0 1 [.string x])) := by
       simp [exBuildSliceAt, Heap.pushAt_lt (show K1.n + 2 < Q8.n by omega)]
       rfl
      have k9 : Same (fun i => i = K1.n + 2) Q8 (Q8.set (K1.n + 2) (.row true 0 1 [.string x])) := Same.set (X := fun i => i = K1.n + 2) Q8 (by omega) rfl _
      have g9 : (Q8.set (K1.n + 2) (.row true 0 1 [.string x])).get (K1.n + 2) = .row true 0 1 [.string x] := Heap.get_set_self _ _ (by omega)
      have n9 : (Q8.set (K1.n + 2) (.row true 0 1 [.string x])).n = K1.n + 4 := by simp; omega
      generalize Q8.set (K1.n + 2) (.row true 0 1 [.string x]) = Q9 at *
      obtain ⟨Q10, e10, G10, k10, n10⟩ := repStr.G_appAt tf_str (repStr.G_move k9 (S' := fun i => i = K1.n ∨ i = K1.n + 1) (fun i hi hl => ⟨hi, by omega⟩) G8) (r := K1.n + 3) (xid := K1.n + 2) (xc := 1) (by omega) (by omega) h.il (a := x) g9 rfl
      have kB : Same (fun _ => False) K1 Q10 := ⟨by omega, fun i hi _ => by
       have v0 : ¬ vid (.slice (some ⟨b, 0, none⟩) c.ins.length c.ins.length) i := fun e => by
        have : b = i := e
        omega
       rw [k10.get i (by omega) (fun e => by rcases e with e | e; exact v0 e; omega), k9.get i (by omega) (by omega), k8.get i (by omega) (by omega), kA.get i hi (by omega)]⟩
      have gc10 := kB.at gc1 (by simp) (fun h => h)
      have hc10 : cid < Q10.n := Heap.lt_of_get gc10 (by simp)
      simp [e7, gc7, e8, g38, e9, e10, gc10]
      have nf : ∀ {a b : Nat}, a < b → (a = b) = False ∧ (b = a) = False := fun h => ⟨eq_false (by omega), eq_false (by omega)⟩
      have ap0 := nf (show cid < K1.n by omega)
      have ap1 := nf (show cid < K1.n + 1 by omega)
      have ap2 := nf (show cid < K1.n + 2 by omega)
      have ap3 := nf (show cid < K1.n + 2 + 1 by omega)
      have ap4 := nf (show cid < K1.n + 3 by omega)
      have ap5 := nf (show H.n < K1.n by omega)
      have ap6 := nf (show H.n < K1.n + 1 by omega)
      have ap7 := nf (show H.n < K1.n + 2 by omega)
      have ap8 := nf (show H.n < K1.n + 2 + 1 by omega)
      have ap9 := nf (show H.n < K1.n + 3 by omega)
      have ap10 := nf (show K1.n < K1.n + 1 by omega)
      have ap11 := nf (show K1.n < K1.n + 2 by omega)
      have ap12 := nf (show K1.n < K1.n + 3 by omega)
      have ap13 := nf (show K1.n + 1 < K1.n + 2 by omega)
      have ap14 := nf (show K1.n + 1 < K1.n + 3 by omega)
      have ap15 := nf (show K1.n + 2 < K1.n + 3 by omega)
      have ap16 := nf (show K1.n < K1.n + 2 + 1 by omega)
      have ap17 := nf (show K1.n + 1 < K1.n + 2 + 1 by omega)
      have ap18 := nf (show K1.n + 2 < K1.n + 2 + 1 by omega)
      have ap19 := nf (show cid < H.n by omega)
      have kS : Same (fun i => i = cid) Q10 (Q10.set cid (.row true 0 1 [.pointer (some ⟨rtid, 0, none⟩), .int .i64 c.p, .slice (some ⟨K1.n + 3, 0, none⟩) (c.ins.length + 1) (c.ins.length + 1), .string c.cond, .int .i64 (fc none), .int .i64 (fa none)])) := Same.set (X := fun i => i = cid) Q10 hc10 rfl _
      have kS1 := (Same.none (X := fun i => i = cid) kB).trans kS
      have cS : CR H0 (Q10.set cid (.row true 0 1 [.pointer (some ⟨rtid, 0, none⟩), .int .i64 c.p, .slice (some ⟨K1.n + 3, 0, none⟩) (c.ins.length + 1) (c.ins.length + 1), .string c.cond, .int .i64 (fc none), .int .i64 (fa none)])) rtid cid ⟨c.p, c.ins ++ [x], c.cond⟩ (.slice (some ⟨K1.n + 3, 0, none⟩) (c.ins.length + 1) (c.ins.length + 1)) none :=
       ⟨r1'.2.kp.then kS1 fun i e => .inl (by rw [e]; exact h.hc), h.hc, Heap.get_set_self _ _ hc10, repStr.G_move kS (fun i hi hl => ⟨⟨by have := r1'.2.kp.n; omega, by omega⟩, by omega⟩) G10, FOK.none, by simp only [szS] at hil; simp; omega⟩
      have vids : (vb = none ∨ ∃ id, vb = some ⟨id, 0, none⟩ ∧ id < H.n) := by
       rcases h.gi with ⟨hv, _⟩ | ⟨id, tl, cs, hv, _, _, hg, _⟩
       · injection hv with e1; exact .inl e1
       · injection hv with e1; exact .inr ⟨id, e1, Heap.lt_of_get hg (by simp)⟩
      rcases hb8 with rfl | rfl <;> rcases vids with rfl | ⟨id, rfl, hid⟩
      · simp (config := { decide := true }) [List.elem_eq_mem, ap0, ap1, ap2, ap3, ap4, ap5, ap6, ap7, ap8, ap9, ap10, ap11, ap12, ap13, ap14, ap15, ap16, ap17, ap18, ap19]
        exact ⟨by simp [len_Bs], kS1, cS⟩
      · have i0 := nf (show id < K1.n by omega)
        have i1 := nf (show id < K1.n + 1 by omega)
        have i2 := nf (show id < K1.n + 2 by omega)
        have i3 := nf (show id < K1.n + 2 + 1 by omega)
        have i4 := nf (show id < K1.n + 3 by omega)
        simp (config := { decide := true }) [List.elem_eq_mem, ap0, ap1, ap2, ap3, ap4, ap5, ap6, ap7, ap8, ap9, ap10, ap11, ap12, ap13, ap14, ap15, ap16, ap17, ap18, ap19, i0, i1, i2, i3, i4]
        exact ⟨by simp [len_Bs], kS1, cS⟩
      · simp (config := { decide := true }) [List.elem_eq_mem, ap0, ap1, ap2, ap3, ap4, ap5, ap6, ap7, ap8, ap9, ap10, ap11, ap12, ap13, ap14, ap15, ap16, ap17, ap18, ap19]
        exact ⟨by simp [len_Bs], kS1, cS⟩
      · have i0 := nf (show id < K1.n by omega)
        have i1 := nf (show id < K1.n + 1 by omega)
        have i2 := nf (show id < K1.n + 2 by omega)
        have i3 := nf (show id < K1.n + 2 + 1 by omega)
        have i4 := nf (show id < K1.n + 3 by omega)
        simp (config := { decide := true }) [List.elem_eq_mem, ap0, ap1, ap2, ap3, ap4, ap5, ap6, ap7, ap8, ap9, ap10, ap11, ap12, ap13, ap14, ap15, ap16, ap17, ap18, ap19, i0, i1, i2, i3, i4]
        exact ⟨by simp [len_Bs], kS1, cS⟩
    · rintro t K2 ⟨⟨ht, u0, u3, u4⟩, k2, c2⟩
      have g32 := k2.at g3a (by simp) hne
      have gc2 := c2.obj
      simp only [ck6] at gc2
      have fin : ∀ {K : Heap} {f' : Option Flt}, Same (fun i => i = cid) K1 K → CR H0 K rtid cid ⟨c.p, c.ins ++ [x], c.cond⟩ (.slice (some ⟨K1.n + 3, 0, none⟩) (c.ins.length + 1) (c.ins.length + 1)) f' →
        RetC H0 H rtid cid c (.slice vb c.ins.length c.ins.length) f' (K.set cid (.row true 0 1 [.pointer (some ⟨rtid, 0, none⟩), .int .i64 c.p, .slice vb c.ins.length c.ins.length, .string c.cond, .int .i64 (fc f'), .int .i64 (fa f')])) := by
       intro K f' kK cK
       have kS := kK.trans (Same.set (X := fun i => i = cid) K cK.lt rfl (.row true 0 1 [.pointer (some ⟨rtid, 0, none⟩), .int .i64 c.p, .slice vb c.ins.length c.ins.length, .string c.cond, .int .i64 (fc f'), .int .i64 (fa f')]))
       have := r1'.before kp
       exact ⟨this.1.trans kS, r1'.2.turn kS rfl (Heap.get_set_self _ _ cK.lt) cK.fk⟩
      have he : e.length = 0 ∨ e.length = 1 := by omega
      rcases he with he | he
      · have hn0 : ¬ 0 < e.length := by omega
        have hw : wantB R ⟨c.p, c.ins ++ [x], x⟩ 2 e = none := by
         rw [List.length_eq_zero_iff.1 he, wantB]
        obtain ⟨K3, e3, r3⟩ := kstmts_of hE (c := ⟨c.p, c.ins ++ [x], c.cond⟩) hc0 c2 lb nbody hb
        have gc3 := r3.2.obj
        simp only [ck6] at gc3
        have l3 := r3.2.lt
        simp [ht, u0, u3, u4, g32, hn0, e3, gc3]
        rw [hw]
        have := fin (k2.trans r3.1) r3.2
        simpa using this
      · have hn0 : 0 < e.length := by omega
        obtain ⟨id, tl, cs', e1', _, hid, hrow, hcl', hget, hle⟩ := repEx.G_at gE hn0
        cases e1'
        simp only [repEx] at hget hcl' hrow hle
        have wf0 := wfe.mem _ (List.getElem_mem hn0)
        have hw : wantB R ⟨c.p, c.ins ++ [x], x⟩ 2 e = (exB R ⟨c.p, c.ins ++ [x], x⟩ e[0]).or (typB 2 e[0]) := by
         have : ∀ (l : List Ex) (h : l.length = 1), wantB R ⟨c.p, c.ins ++ [x], x⟩ 2 l = (exB R ⟨c.p, c.ins ++ [x], x⟩ (l[0]'(by omega))).or (typB 2 (l[0]'(by omega))) := fun l h => match l, h with
          | [y], _ => by simp [wantB]
         exact this e he
        generalize e[0] = y at *
        obtain ⟨K3, hK3⟩ : ∃ K3, K3 = K2.set cid (.row true 0 1 [.pointer (some ⟨rtid, 0, none⟩), .int .i64 c.p, .slice (some ⟨K1.n + 3, 0, none⟩) (c.ins.length + 1) (c.ins.length + 1), .string x, .int .i64 (fc none), .int .i64 (fa none)]) := ⟨_, rfl⟩
        have k3 : Same (fun i => i = cid) K2 K3 := by rw [hK3]; exact Same.set (X := fun i => i = cid) K2 c2.lt rfl _
        have c3 : CR H0 K3 rtid cid ⟨c.p, c.ins ++ [x], x⟩ (.slice (some ⟨K1.n + 3, 0, none⟩) (c.ins.length + 1) (c.ins.length + 1)) none := c2.turn k3 rfl (by rw [hK3]; exact Heap.get_set_self _ _ c2.lt) FOK.none
        have g33 := k3.at g32 (by simp) hne
        have hid3 := c3.kp.at hrow (by simp) (by omega)
        obtain ⟨K4, e4, r4⟩ := kwant_all hE hR hok wf0 2 c3 hget
        rw [Option.none_or, ← hw] at r4
        have gc4 := r4.2.obj
        simp only [ck6] at gc4
        have l4 := r4.2.lt
        have g34 := r4.at g33 (by simp) hne
        generalize wantB R ⟨c.p, c.ins ++ [x], x⟩ 2 e = fw at *
        obtain ⟨K5, hK5⟩ : ∃ K5, K5 = K4.set cid (.row true 0 1 [.pointer (some ⟨rtid, 0, none⟩), .int .i64 c.p, .slice (some ⟨K1.n + 3, 0, none⟩) (c.ins.length + 1) (c.ins.length + 1), .string ⟨#[]⟩, .int .i64 (fc fw), .int .i64 (fa fw)]) := ⟨_, rfl⟩
        have k5 : Same (fun i => i = cid) K4 K5 := by rw [hK5]; exact Same.set (X := fun i => i = cid) K4 l4 rfl _
        have c5 : CR H0 K5 rtid cid ⟨c.p, c.ins ++ [x], c.cond⟩ (.slice (some ⟨K1.n + 3, 0, none⟩) (c.ins.length + 1) (c.ins.length + 1)) fw := r4.2.turn k5 rfl (by rw [hK5, hc0]; exact Heap.get_set_self _ _ l4) r4.2.fk
        have g35 := k5.at g34 (by simp) hne
        obtain ⟨K6, e6, r6⟩ := kstmts_of hE (c := ⟨c.p, c.ins ++ [x], c.cond⟩) hc0 c5 lb nbody hb
        have gc6 := r6.2.obj
        simp only [ck6] at gc6
        have l6 := r6.2.lt
        have hle' : 6 ≤ cs'.length := by omega
        simp at e4
        simp [ht, u0, u3, u4, g32, hn0, gc2, ← hK3, g33, hid3, hle', e4, gc4, ← hK5, g35, e6, gc6]
        have := fin (k2.trans (k3.trans (r4.1.trans (k5.trans r6.1)))) r6.2
        simpa using this
theorem kstmt_all : ∀ (n : Nat) (y : Stm), SizeOf.sizeOf y < n → WFs y → KSt E H0 rtid cid R y := by
 intro n
 induction n with
 | zero => intro y hy; exact absurd hy (Nat.not_lt_zero _)
 | succ n ih =>
  rintro ⟨kind, at_, x, e, body, els, br, items⟩ hy hwf
  have hwf' := hwf
  simp only [WFs] at hwf'
  simp only [Stm.mk.sizeOf_spec] at hy
  have hb : ∀ z ∈ body, KSt E H0 rtid cid R z := fun z hz => ih z (by have := List.sizeOf_lt_of_mem hz; omega) (hwf'.2.2.1.mem z hz)
  have he : ∀ z ∈ els, KSt E H0 rtid cid R z := fun z hz => ih z (by have := List.sizeOf_lt_of_mem hz; omega) (hwf'.2.2.2.1.mem z hz)
  have hk10 : kind = 10 → KRg E H0 rtid cid R (.mk kind at_ x e body els br items) := by
   intro hk
   subst hk
   intro H c v f cs S h1 h2 h3 h4
   exact kregion_of hE hR hok hgd hwf hb h1 h2 h3 h4
  intro H c v f cs S h1 h2 h3 h4
  exact kstmt_of hE hR hok hgd hwf hb he hk10 h1 h2 h3 h4
theorem kstmts_run {H : Heap} {c : At} {v : Value} {f : Option Flt} (hc : c.cond = ByteArray.empty) (h : CR H0 H rtid cid c v f) {w : Value} {l : List Stm} (gl : LS H0 w l) (hil : c.ins.length + szSs l ≤ 100000) (hwf : WFss l) :
  ∃ H', (run Try.prog E).call 65 [.pointer (some ⟨cid, 0, none⟩), w] H = some (.val (.tuple #[]), H') ∧ RetC H0 H rtid cid c v (f.or (stsB R c.p c.ins l)) H' :=
 kstmts_of hE hc h gl hil fun y hy => kstmt_all hE hR hok hgd _ y (Nat.lt_succ_self _) (hwf.mem y hy)
end
def PrI (H0 H : Heap) (rtid cid : Nat) (R : RT) (l : List Prc) (m : Nat) (t : List Value) (K : Heap) : Prop :=
 ∃ (k : Nat) (g : Option Flt) (p : Int), k ≤ l.length ∧ m = l.length - k ∧ rd t 6 = .int .i64 k ∧ Same (fun i => i = cid) H K ∧ CR H0 K rtid cid ⟨p, [], ByteArray.empty⟩ (.slice none 0 0) g ∧ g.or (prcsB R k (l.drop k)) = prcsB R 0 l
theorem szPs_len : ∀ l : List Prc, l.length ≤ szPs l
 | [] => Nat.zero_le _
 | p :: l => by have := szPs_len l; simp only [szPs, szP, List.length_cons]; omega
theorem szPs_mem {b : Prc} : ∀ {l : List Prc}, b ∈ l → szSs b.body ≤ szPs l
 | a :: l, h => by
  simp only [szPs]
  rcases List.mem_cons.1 h with rfl | h
  · simp only [szP]; omega
  · have := szPs_mem h; omega
section
variable {E : Hooks} (hE : Plain E)
include hE
theorem c_kcheck (args : List Value) (H : Heap) : (run Try.prog E).call 33 args H = callB Try.prog E Try.f33 args H := call_B Try.func33 rfl (by decide +kernel) (hE.no _ rfl rfl) args H
theorem kcheck_run {H : Heap} {rtid : Nat} {R : RT} {col : Nat → Nat} {v1 v2 v3 v4 v5 v6 : Value} (hR : RRef H col rtid v1 v2 v3 v4 v5 v6 R) (hok : ROK R) (hgd : RGood R) {S : Nat → Prop} {p : Src} {cs : List Value} (hs : RSrc H S p cs) {n : Nat} (hsrc : SrcOK p n) (hn : n ≤ 100000) :
  ∃ H', (run Try.prog E).call 33 [.agg ⟨cs⟩, .pointer (some ⟨rtid, 0, none⟩)] H = some (.val (.agg ⟨[.int .i64 (fc (checkB R p)), .int .i64 (fa (checkB R p))]⟩), H') ∧ Same (fun _ => False) H H' := by
 refine of_gives ?_
 obtain ⟨w1, w2, w3, w4, rfl, g1, g2, g3, g4⟩ := hs
 obtain ⟨b1, rfl⟩ := repDcl.G_slice g1
 obtain ⟨b2, rfl⟩ := repPrc.G_slice g2
 obtain ⟨b3, rfl⟩ := repItm.G_slice g3
 obtain ⟨b4, rfl⟩ := repStm.G_slice g4
 have hsz := hsrc.size
 have zp := szPs_len p.procs
 have zb := szSs_len p.body
 rw [c_kcheck hE, callB, bodyOf]
 simp only [sr5]
 have kb : Same (fun _ => False) H (((H.push (.row true 0 1 [.string p.name, .slice b1 p.decls.length p.decls.length, .slice b2 p.procs.length p.procs.length, .slice b3 p.claims.length p.claims.length, .slice b4 p.body.length p.body.length])).push (.row true 0 1 [.int .i64 0, .int .i64 0])).push (.row true 0 1 [.pointer (some ⟨rtid, 0, none⟩), .int .i64 0, .slice none 0 0, .string ByteArray.empty, .int .i64 0, .int .i64 0])) := ((Same.push _ _ _).then_push _).then_push _
 have gs : (((H.push (.row true 0 1 [.string p.name, .slice b1 p.decls.length p.decls.length, .slice b2 p.procs.length p.procs.length, .slice b3 p.claims.length p.claims.length, .slice b4 p.body.length p.body.length])).push (.row true 0 1 [.int .i64 0, .int .i64 0])).push (.row true 0 1 [.pointer (some ⟨rtid, 0, none⟩), .int .i64 0, .slice none 0 0, .string ByteArray.empty, .int .i64 0, .int .i64 0])).get H.n = .row true 0 1 [.string p.name, .slice b1 p.decls.length p.decls.length, .slice b2 p.procs.length p.procs.length, .slice b3 p.claims.length p.claims.length, .slice b4 p.body.length p.body.length] := by
  rw [Heap.get_push, if_neg (by simp), Heap.get_push, if_neg (by simp), Heap.get_push_self]
 have gr : (((H.push (.row true 0 1 [.string p.name, .slice b1 p.decls.length p.decls.length, .slice b2 p.procs.length p.procs.length, .slice b3 p.claims.length p.claims.length, .slice b4 p.body.length p.body.length])).push (.row true 0 1 [.int .i64 0, .int .i64 0])).push (.row true 0 1 [.pointer (some ⟨rtid, 0, none⟩), .int .i64 0, .slice none 0 0, .string ByteArray.empty, .int .i64 0, .int .i64 0])).get (H.n + 1) = .row true 0 1 [.int .i64 0, .int .i64 0] := by
  rw [Heap.get_push, if_neg (by simp)]; exact Heap.get_push_self (H.push _) _
 have gc : (((H.push (.row true 0 1 [.string p.name, .slice b1 p.decls.length p.decls.length, .slice b2 p.procs.length p.procs.length, .slice b3 p.claims.length p.claims.length, .slice b4 p.body.length p.body.length])).push (.row true 0 1 [.int .i64 0, .int .i64 0])).push (.row true 0 1 [.pointer (some ⟨rtid, 0, none⟩), .int .i64 0, .slice none 0 0, .string ByteArray.empty, .int .i64 0, .int .i64 0])).get (H.n + 2) = .row true 0 1 (ck6 rtid 0 (.slice none 0 0) ByteArray.empty (fc none) (fa none)) := Heap.get_push_self ((H.push _).push _) _
 simp [Try.f33]
 generalize hHb : ((H.push (.row true 0 1 [.string p.name, .slice b1 p.decls.length p.decls.length, .slice b2 p.procs.length p.procs.length, .slice b3 p.claims.length p.claims.length, .slice b4 p.body.length p.body.length])).push (.row true 0 1 [.int .i64 0, .int .i64 0])).push (.row true 0 1 [.pointer (some ⟨rtid, 0, none⟩), .int .i64 0, .slice none 0 0, .string ByteArray.empty, .int .i64 0, .int .i64 0]) = Hb at *
 have c0 : CR H Hb rtid (H.n + 2) ⟨0, [], ByteArray.empty⟩ (.slice none 0 0) none := ⟨kb.mono fun _ h => h.elim, by omega, gc, .inl ⟨rfl, rfl⟩, FOK.none, by simp⟩
 refine loop_mid2 (fun t K => Same (fun i => i = H.n + 2) Hb K ∧ ∃ q, CR H K rtid (H.n + 2) ⟨q, [], ByteArray.empty⟩ (.slice none 0 0) (prcsB R 0 p.procs)) (PrI H Hb rtid (H.n + 2) R p.procs) p.procs.length ?_ ?_ ?_
 · exact ⟨0, none, 0, Nat.zero_le _, by simp, by simp, Same.refl _ _, c0, by simp⟩
 · rintro m t K hkk ⟨k, g, q, hkl, rfl, g6, kK, cK, hg⟩
   have ht : t.length = 50 := hkk.1.trans (by simp [len_Bs])
   have hh := hkk.all [1, 2, 5] (by decide +kernel)
   simp at hh
   obtain ⟨u1, u2, u5⟩ := hh
   have e0 := kbad_run hE cK
   have gsK := kK.at gs (by simp) (by omega)
   have gcK := cK.obj
   simp only [ck6] at gcK
   have lK := cK.lt
   have w1 : IntKind.i64.wrap ((k : Int) + 1) = (k : Int) + 1 := wrap64 _ (by omega) (by omega)
   rcases Nat.lt_or_ge k p.procs.length with hlt | hge
   · cases g with
     | some z =>
      simp [ht, u1, u2, u5, g6, gsK, hlt, e0]
      rw [← hg]
      exact ⟨kK, q, by simpa using cK⟩
     | none =>
      obtain ⟨id, tl, cs, e1, _, hid, hrow, hcl, hget, hle⟩ := repPrc.G_at g2 hlt
      cases e1
      rw [List.drop_eq_getElem_cons hlt, prcsB] at hg
      have wf := hsrc.procs _ (List.getElem_mem hlt)
      have sz := szPs_mem (List.getElem_mem hlt)
      generalize p.procs[k] = pr at *
      obtain ⟨y1, y2, y3, hq, _, _, gb⟩ := hget
      simp only [repPrc, pc5] at hq hcl hrow hle
      have hc4 : ∃ h : k * 5 + 4 < cs.length, cs[k * 5 + 4]'h = y3 := by
       have : cs[k * 5 + 4]? = some y3 := by
        have := congrArg (fun q => q[4]?) hq
        simpa using this
       exact List.getElem?_eq_some_iff.1 this
      obtain ⟨hk4, hc4⟩ := hc4
      have hk4' : k * 5 + 4 < p.procs.length * 5 := by omega
      obtain ⟨K2, hK2⟩ : ∃ K2, K2 = K.set (H.n + 2) (.row true 0 1 [.pointer (some ⟨rtid, 0, none⟩), .int .i64 ((k : Int) + 1), .slice none 0 0, .string ByteArray.empty, .int .i64 (fc none), .int .i64 (fa none)]) := ⟨_, rfl⟩
      have k2 : Same (fun i => i = H.n + 2) K K2 := by rw [hK2]; exact Same.set (X := fun i => i = H.n + 2) K lK rfl _
      have c2 : CR H K2 rtid (H.n + 2) ⟨(k : Int) + 1, [], ByteArray.empty⟩ (.slice none 0 0) none := cK.turn k2 rfl (by rw [hK2]; exact Heap.get_set_self _ _ lK) FOK.none
      have gsK2 := k2.at gsK (by simp) (by omega)
      have hr2 := c2.kp.at hrow (by simp) (by omega)
      obtain ⟨K3, e3, r3⟩ := kstmts_run hE hR hok hgd rfl c2 (LS.of gb) (by simp; omega) wf
      obtain ⟨yb, rfl⟩ := repStm.G_slice gb
      simp [ht, u1, u2, u5, g6, gsK, hlt, e0, gcK, w1, ← hK2, gsK2, hr2, hcl, hk4', hc4, e3]
      exact ⟨p.procs.length - (k + 1), by omega, k + 1, _, _, by omega, rfl, by simp [ht], kK.trans (k2.trans r3.1), r3.2, hg⟩
   · have : k = p.procs.length := by omega
     subst this
     simp [prcsB] at hg
     simp [ht, u1, u2, u5, g6, gsK]
     rw [← hg]; exact ⟨kK, q, cK⟩
 · rintro t K hkk ⟨kK, q, cK⟩
   have ht : t.length = 50 := hkk.1.trans (by simp [len_Bs])
   have hh := hkk.all [1, 2, 4, 5] (by decide +kernel)
   simp at hh
   obtain ⟨u1, u2, u4, u5⟩ := hh
   have gsK := kK.at gs (by simp) (by omega)
   have gcK := cK.obj
   simp only [ck6] at gcK
   have lK := cK.lt
   obtain ⟨K2, hK2⟩ : ∃ K2, K2 = K.set (H.n + 2) (.row true 0 1 [.pointer (some ⟨rtid, 0, none⟩), .int .i64 0, .slice none 0 0, .string ByteArray.empty, .int .i64 (fc (prcsB R 0 p.procs)), .int .i64 (fa (prcsB R 0 p.procs))]) := ⟨_, rfl⟩
   have k2 : Same (fun i => i = H.n + 2) K K2 := by rw [hK2]; exact Same.set (X := fun i => i = H.n + 2) K lK rfl _
   have c2 : CR H K2 rtid (H.n + 2) ⟨0, [], ByteArray.empty⟩ (.slice none 0 0) (prcsB R 0 p.procs) := cK.turn k2 rfl (by rw [hK2]; exact Heap.get_set_self _ _ lK) cK.fk
   have gsK2 := k2.at gsK (by simp) (by omega)
   obtain ⟨K3, e3, r3⟩ := kitems_run hE hR hok hgd c2 g3 (by omega)
   have gsK3 := r3.at gsK2 (by simp) (by omega)
   obtain ⟨K4, e4, r4⟩ := kstmts_run hE hR hok hgd rfl r3.2 (LS.of g4) (by simp; omega) hsrc.body
   have kk : Same (fun i => i = H.n + 2) Hb K4 := kK.trans (k2.trans (r3.1.trans r4.1))
   have grK := kk.at gr (by simp) (by omega)
   have gc4 := r4.2.obj
   simp only [ck6] at gc4
   have hf : ((prcsB R 0 p.procs).or (itemsB R 0 [] p.claims)).or (stsB R 0 [] p.body) = checkB R p := by unfold checkB; rw [Option.or_assoc]
   simp only [hf] at gc4
   have lr := Heap.lt_of_get grK (by simp)
   simp [ht, u1, u2, u4, u5, gcK, ← hK2, gsK2, e3, gsK3, e4, gc4, grK, lr]
   exact ((kb.then kk fun i e => .inr (by omega))).then_set lr (.inr (by omega)) _
end
end Go.Vm.Typing
namespace Go.Vm
open Go.RowKit
section
variable {P : Program} {E : Hooks}
def midP (i : Nat) (J : List Value → Heap → Prop) (Q : QA) : QA := fun e s H => match e with
 | .exit j => j = i ∧ s.ds = [] ∧ J s.t H
 | .ret => Q .ret s H
 | .pan v => Q (.pan v) s H
 | _ => False
@[simp] theorem midP_exit (i : Nat) (J : List Value → Heap → Prop) (Q : QA) (j : Nat) (s : St) (H : Heap) : midP i J Q (.exit j) s H = (j = i ∧ s.ds = [] ∧ J s.t H) := id rfl
@[simp] theorem midP_ret (i : Nat) (J : List Value → Heap → Prop) (Q : QA) (s : St) (H : Heap) : midP i J Q .ret s H = Q .ret s H := id rfl
@[simp] theorem midP_pan (i : Nat) (J : List Value → Heap → Prop) (Q : QA) (v : Value) (s : St) (H : Heap) : midP i J Q (.pan v) s H = Q (.pan v) s H := id rfl
theorem loop_mid3 {c : Code} {t0 : List Value} {H0 : Heap} {i : Nat} {k : St → Heap → ResA} {Q : QA} {hk : Held k} (J : List Value → Heap → Prop) (I : Nat → List Value → Heap → Prop) (m0 : Nat) (h0 : I m0 t0 H0)
  (step : ∀ m t H, Kept (dstsOf c) t0 t → I m t H → Ends ((run P E).code c ⟨Fr t [], []⟩ H) (roundQ (dstsOf c) t0 I m (midP i J Q)))
  (after : ∀ t H, Kept (dstsOf c) t0 t → J t H → Ends (k ⟨Fr t [], []⟩ H) Q) : Ends ((run P E).code (.loop c) ⟨t0, []⟩ H0) (blockQ i (bindQ k Q hk)) := by
 refine loop_ends (fun m t H => Kept (dstsOf c) t0 t ∧ I m t H) ?_ m0 t0 H0 ⟨Kept.refl _ _, h0⟩
 rintro m t H ⟨hk, hI⟩
 obtain ⟨e, s, H', h1, h2⟩ := step m t H hk hI
 rw [Fr_nil] at h1
 refine ⟨e, s, H', h1, ?_⟩
 cases e with
 | normal => rw [roundQ_normal] at h2; obtain ⟨h3, m', h4, h5⟩ := h2; exact .inl ⟨rfl, h3, m', h4, hk.trans (kept_run h1), h5⟩
 | exit j =>
  rw [roundQ_exit, midP_exit] at h2
  refine .inr ⟨(fun h => by cases h), ?_⟩
  obtain ⟨rfl, h3, h4⟩ := h2
  obtain ⟨t', ds⟩ := s
  simp only at h3
  subst h3
  rw [blockQ_exit, if_pos rfl, bindQ_normal]
  have := after t' H' (hk.trans (kept_run h1)) h4
  rwa [Fr_nil] at this
 | goto j => rw [roundQ_goto] at h2; exact h2.elim
 | ret => rw [roundQ_ret, midP_ret] at h2; exact .inr ⟨(fun h => by cases h), by rw [blockQ_ret, bindQ_ret]; exact h2⟩
 | pan v => rw [roundQ_pan, midP_pan] at h2; exact .inr ⟨(fun h => by cases h), by rw [blockQ_pan, bindQ_pan]; exact h2⟩
end
end Go.Vm
namespace Go.Vm.Typing
open Go Go.Proofs Go.Vm.Parse Go.Vm.Scope
attribute [local simp] repCells_succ writeAt rd_Fr toList_beq gpe gpn spe gse gsn ne_r0 ne_l0 le_s0 ne_r1 ne_l1 lt_s1 le_s1 ne_r2 ne_l2 lt_s2 le_s2 ne_r3 ne_l3 lt_s3 le_s3 ne_r4 ne_l4 lt_s4 le_s4 ne_r5 ne_l5 lt_s5 le_s5 ne_r6 ne_l6 lt_s6 le_s6 ne_r7 ne_l7 lt_s7 le_s7
def PtI (H0 : Heap) (R : RT) (l : List Prc) (m : Nat) (t : List Value) (K : Heap) : Prop :=
 ∃ k : Nat, k ≤ l.length ∧ m = l.length - k ∧ rd t 9 = .int .i64 k ∧ Same (fun _ => False) H0 K ∧ prcsB R k (l.drop k) = prcsB R 0 l
theorem CT.fresh {H0 K : Heap} (k : Same (fun _ => False) H0 K) (tid : Nat) (p : Int) (o : AObj) :
  CT H0 ((K.push o).push (.row true 0 1 [.pointer (some ⟨tid, 0, none⟩), .int .i64 p, .slice none 0 0, .string ByteArray.empty])) tid (K.n + 1) ⟨p, [], ByteArray.empty⟩ (.slice none 0 0) :=
 ⟨((k.then_push _).then_push _).none, by have := k.n; omega, Heap.get_push_self (K.push o) _, .inl ⟨0, rfl, rfl, rfl⟩, Nat.zero_le _⟩
theorem CT.fresh1 {H0 K : Heap} (k : Same (fun _ => False) H0 K) (tid : Nat) (p : Int) :
  CT H0 (K.push (.row true 0 1 [.pointer (some ⟨tid, 0, none⟩), .int .i64 p, .slice none 0 0, .string ByteArray.empty])) tid K.n ⟨p, [], ByteArray.empty⟩ (.slice none 0 0) :=
 ⟨(k.then_push _).none, k.n, Heap.get_push_self K _, .inl ⟨0, rfl, rfl, rfl⟩, Nat.zero_le _⟩
section
variable {E : Hooks} (hE : Plain E)
include hE
theorem c_tcheck1 (args : List Value) (H : Heap) : (run Try.prog E).call 61 args H = callB Try.prog E Try.f61 args H := call_B Try.func61 rfl (by decide +kernel) (hE.no _ rfl rfl) args H
theorem c_tcheck (args : List Value) (H : Heap) : (run Try.prog E).call 32 args H = callB Try.prog E Try.f32 args H := call_B Try.func32 rfl (by decide +kernel) (hE.no _ rfl rfl) args H
variable {R : RT} {T : Tab} (ha : Scope.Agree T R) (hok : TOK T) (hgd : RGood R)
include ha hok hgd
theorem tcheck1_run {H0 : Heap} {tid : Nat} {col : Nat → Nat} {nid pid rid : Nat} {v1 v2 v3 v4 v5 : Value} (hT : RTab H0 col tid nid pid rid v1 v2 v3 v4 v5 T) {S : Nat → Prop} {p : Src} {cs : List Value} (hs : RSrc H0 S p cs) {n : Nat} (hsrc : SrcOK p n) (hn : n ≤ 100000)
  {si ti : Nat} (gs : H0.get si = .row true 0 1 cs) (gt : H0.get ti = .row true 0 1 [.pointer (some ⟨tid, 0, none⟩)]) :
  ∃ H', (run Try.prog E).call 61 [.pointer (some ⟨si, 0, none⟩), .pointer (some ⟨ti, 0, none⟩)] H0 = some (outF (checkB R p), H') ∧ Same (fun _ => False) H0 H' := by
 refine of_gives ?_
 obtain ⟨w1, w2, w3, w4, rfl, g1, g2, g3, g4⟩ := hs
 obtain ⟨b1, rfl⟩ := repDcl.G_slice g1
 obtain ⟨b2, rfl⟩ := repPrc.G_slice g2
 obtain ⟨b3, rfl⟩ := repItm.G_slice g3
 obtain ⟨b4, rfl⟩ := repStm.G_slice g4
 simp only [sr5] at gs
 have hsz := hsrc.size
 have zp := szPs_len p.procs
 have zb := szSs_len p.body
 have fin : ∀ {K K' : Heap} {cid : Nat} {c : At} {f : Option Flt}, Same (fun _ => False) H0 K → H0.n ≤ cid → RetT H0 K tid cid c (.slice none 0 0) f K' → Same (fun _ => False) H0 K' := fun h1 h2 h3 =>
  h1.then h3.1 fun i hi => by
   rcases hi with rfl | hi
   · exact .inr h2
   · exact hi.elim
 rw [c_tcheck1 hE, callB, bodyOf]
 simp [Try.f61, gs]
 refine loop_mid3 (fun t K => Same (fun _ => False) H0 K ∧ prcsB R 0 p.procs = none) (PtI H0 R p.procs) p.procs.length ?_ ?_ ?_
 · exact ⟨0, Nat.zero_le _, by simp, by simp, Same.refl _ _, by simp⟩
 · rintro m t K hkk ⟨k, hkl, rfl, g9, kK, hg⟩
   have ht : t.length = 35 := hkk.1.trans (by simp [len_Bs])
   have hh := hkk.all [0, 1, 7, 8] (by decide +kernel)
   simp at hh
   obtain ⟨u0, u1, u7, u8⟩ := hh
   have w1 : IntKind.i64.wrap ((k : Int) + 1) = (k : Int) + 1 := wrap64 _ (by omega) (by omega)
   rcases Nat.lt_or_ge k p.procs.length with hlt | hge
   · obtain ⟨id, tl, cs, e1, _, hid, hrow, hcl, hget, hle⟩ := repPrc.G_at g2 hlt
     cases e1
     rw [List.drop_eq_getElem_cons hlt, prcsB] at hg
     have wf := hsrc.procs _ (List.getElem_mem hlt)
     have sz := szPs_mem (List.getElem_mem hlt)
     generalize p.procs[k] = pr at *
     obtain ⟨y1, y2, y3, hq, _, _, gb⟩ := hget
     simp only [repPrc, pc5] at hq hcl hrow hle
     have gtK := kK.at gt (by simp) (fun h => h)
     have hrK := kK.at hrow (by simp) (fun h => h)
     have ls := LS.of gb
     obtain ⟨yb, rfl⟩ := repStm.G_slice gb
     have gtP : ∀ o, (K.push o).get ti = .row true 0 1 [.pointer (some ⟨tid, 0, none⟩)] := fun o => (Heap.get_push_lt K o (Heap.lt_of_get gtK (by simp))).trans gtK
     have gqP : ∀ o o', ((K.push o).push o').get K.n = o := fun o o' => (Heap.get_push_lt (K.push o) o' (Nat.lt_succ_self _)).trans (Heap.get_push_self K o)
     have c2 := CT.fresh kK tid ((k : Int) + 1) (.row true 0 1 [.int .i64 pr.at_, .string pr.name, y1, y2, .slice yb pr.body.length pr.body.length])
     have kP : Same (fun _ => False) H0 ((K.push (.row true 0 1 [.int .i64 pr.at_, .string pr.name, y1, y2, .slice yb pr.body.length pr.body.length])).push (.row true 0 1 [.pointer (some ⟨tid, 0, none⟩), .int .i64 ((k : Int) + 1), .slice none 0 0, .string ByteArray.empty])) := (kK.then_push _).then_push _
     obtain ⟨K3, e3, r3⟩ := tstmts_run hE hT ha hok hgd rfl c2 ls (by simp; omega) wf
     have k3 := fin kP (by have := kK.n; omega) r3
     cases hb : stsB R ((k : Int) + 1) [] pr.body with
     | some q =>
      rw [hb, Option.some_or] at hg
      rw [hb] at e3
      simp only [outF] at e3
      simp [ht, u0, u1, u7, u8, g9, hlt, hrK, hcl, hle, hq, gtK, w1, gtP, gqP, e3]
      unfold checkB
      rw [← hg]
      exact ⟨rfl, k3⟩
     | none =>
      rw [hb, Option.none_or] at hg
      rw [hb] at e3
      simp only [outF] at e3
      simp [ht, u0, u1, u7, u8, g9, hlt, hrK, hcl, hle, hq, gtK, w1, gtP, gqP, e3]
      exact ⟨p.procs.length - (k + 1), by omega, k + 1, by omega, rfl, by simp [ht], k3, hg⟩
   · have : k = p.procs.length := by omega
     subst this
     simp [prcsB] at hg
     simp [ht, u0, u1, u7, u8, g9]
     exact ⟨kK, hg.symm⟩
 · rintro t K hkk ⟨kK, hq⟩
   have ht : t.length = 35 := hkk.1.trans (by simp [len_Bs])
   have hh := hkk.all [0, 1] (by decide +kernel)
   simp at hh
   obtain ⟨u0, u1⟩ := hh
   have gsK := kK.at gs (by simp) (fun h => h)
   have gtK := kK.at gt (by simp) (fun h => h)
   have c0 := CT.fresh1 kK tid 0
   have gsP : ∀ o, (K.push o).get si = .row true 0 1 [.string p.name, .slice b1 p.decls.length p.decls.length, .slice b2 p.procs.length p.procs.length, .slice b3 p.claims.length p.claims.length, .slice b4 p.body.length p.body.length] := fun o => (Heap.get_push_lt K o (Heap.lt_of_get gsK (by simp))).trans gsK
   obtain ⟨K1, e1, k1⟩ := titems_run hE hT ha hok hgd c0 g3 (by omega)
   have gs1 := k1.at (gsP _) (by simp) (fun h => h)
   have c1 := c0.keep k1
   have kB : Same (fun _ => False) H0 K1 := (kK.then_push _).trans k1
   obtain ⟨K2, e2, r2⟩ := tstmts_run hE hT ha hok hgd rfl c1 (LS.of g4) (by simp; omega) hsrc.body
   have k2 := fin kB kK.n r2
   unfold checkB
   rw [hq, Option.none_or]
   cases hi : itemsB R 0 [] p.claims with
   | some q =>
    rw [hi] at e1
    simp only [outF] at e1
    simp [ht, u0, u1, gsK, gtK, gsP, e1, outF]
    exact kB
   | none =>
    rw [hi] at e1
    simp only [outF] at e1
    cases hb : stsB R 0 [] p.body with
    | some q =>
     rw [hb] at e2
     simp only [outF] at e2
     simp [ht, u0, u1, gsK, gtK, gsP, e1, gs1, e2, outF]
     exact k2
    | none =>
     rw [hb] at e2
     simp only [outF] at e2
     simp [ht, u0, u1, gsK, gtK, gsP, e1, gs1, e2, outF]
     exact k2
theorem tcheck_run {H : Heap} {tid : Nat} {col : Nat → Nat} {nid pid rid : Nat} {v1 v2 v3 v4 v5 : Value} (hT : RTab H col tid nid pid rid v1 v2 v3 v4 v5 T) {S : Nat → Prop} {p : Src} {cs : List Value} (hs : RSrc H S p cs) {n : Nat} (hsrc : SrcOK p n) (hn : n ≤ 100000) :
  ∃ H', (run Try.prog E).call 32 [.agg ⟨cs⟩, .pointer (some ⟨tid, 0, none⟩)] H = some (.val (.agg ⟨[.int .i64 (fc (checkB R p)), .int .i64 (fa (checkB R p))]⟩), H') ∧ Same (fun _ => False) H H' := by
 refine of_gives ?_
 obtain ⟨y, a1, a2, a3, b1, b2, b3, c1, c2, c3, d1, d2, d3, rfl⟩ := hs.slices
 have kb : Same (fun _ => False) H (((H.push (.row true 0 1 (sr5 y (.slice a1 a2 a3) (.slice b1 b2 b3) (.slice c1 c2 c3) (.slice d1 d2 d3)))).push (.row true 0 1 [.pointer (some ⟨tid, 0, none⟩)])).push (.row true 0 1 [.int .i64 0, .int .i64 0])) := ((Same.push _ _ _).then_push _).then_push _
 have gs : (((H.push (.row true 0 1 (sr5 y (.slice a1 a2 a3) (.slice b1 b2 b3) (.slice c1 c2 c3) (.slice d1 d2 d3)))).push (.row true 0 1 [.pointer (some ⟨tid, 0, none⟩)])).push (.row true 0 1 [.int .i64 0, .int .i64 0])).get H.n = .row true 0 1 (sr5 y (.slice a1 a2 a3) (.slice b1 b2 b3) (.slice c1 c2 c3) (.slice d1 d2 d3)) := by
  rw [Heap.get_push, if_neg (by simp), Heap.get_push, if_neg (by simp), Heap.get_push_self]
 have gt : (((H.push (.row true 0 1 (sr5 y (.slice a1 a2 a3) (.slice b1 b2 b3) (.slice c1 c2 c3) (.slice d1 d2 d3)))).push (.row true 0 1 [.pointer (some ⟨tid, 0, none⟩)])).push (.row true 0 1 [.int .i64 0, .int .i64 0])).get (H.n + 1) = .row true 0 1 [.pointer (some ⟨tid, 0, none⟩)] := by
  rw [Heap.get_push, if_neg (by simp)]; exact Heap.get_push_self (H.push _) _
 have gr : (((H.push (.row true 0 1 (sr5 y (.slice a1 a2 a3) (.slice b1 b2 b3) (.slice c1 c2 c3) (.slice d1 d2 d3)))).push (.row true 0 1 [.pointer (some ⟨tid, 0, none⟩)])).push (.row true 0 1 [.int .i64 0, .int .i64 0])).get (H.n + 2) = .row true 0 1 [.int .i64 0, .int .i64 0] := Heap.get_push_self ((H.push _).push _) _
 rw [c_tcheck hE, callB, bodyOf]
 simp only [sr5] at *
 simp [Try.f32]
 generalize hHb : ((H.push (.row true 0 1 [.string y, .slice a1 a2 a3, .slice b1 b2 b3, .slice c1 c2 c3, .slice d1 d2 d3])).push (.row true 0 1 [.pointer (some ⟨tid, 0, none⟩)])).push (.row true 0 1 [.int .i64 0, .int .i64 0]) = Hb at *
 have kc : Same (fun _ => False) H (Hb.push (.row true 0 1 [.int .i64 0, .int .i64 0])) := kb.then_push _
 have kq : Same (fun _ => False) Hb (Hb.push (.row true 0 1 [.int .i64 0, .int .i64 0])) := Same.push _ _ _
 obtain ⟨K, e1, k1⟩ := tcheck1_run hE ha hok hgd (hT.keep kc fun _ h => h.elim) (hs.move kc fun j hj hlt => ⟨hj, fun h => h⟩) hsrc hn (kq.at gs (by simp) fun h => h) (kq.at gt (by simp) fun h => h)
 obtain ⟨K2, e2, k2, _⟩ := tcaught_run hE e1 k1 fun i h => h.elim
 have g2 := k2.at gr (by simp) fun h => h
 have hn2 : H.n + 2 < K2.n := Heap.lt_of_get g2 (by simp)
 have g3 : ∀ o, (K2.set (H.n + 2) o).get (H.n + 2) = o := fun o => Heap.get_set_self _ _ hn2
 simp [e2, g2, g3]
 exact (kb.trans k2).then_set hn2 (.inr (by omega)) _
end
end Go.Vm.Typing
namespace Go.Vm.Typing
open Go Go.Proofs Go.Vm.Parse Go.Vm.Scope
theorem hasP_snoc (l : List ByteArray) (y x : ByteArray) : hasP (l ++ [y]) x = (hasP l x || decide (y = x)) := by
 unfold hasP
 rw [List.any_append]
 simp
theorem findP_has {β : Type} (x : ByteArray) : ∀ (l : List ByteArray) (ms : List β), (findP x (l.zip ms)).isSome = true → hasP l x = true
 | [], ms, h => by simp [findP] at h
 | a :: l, [], h => by simp [findP] at h
 | a :: l, m :: ms, h => by
  rw [List.zip_cons_cons, findP] at h
  unfold hasP
  rw [List.any_cons]
  split at h
  · rename_i e
    simp only at e
    simp [e]
  · have := findP_has x l ms h
    unfold hasP at this
    simp [this]
theorem rdecls_good : ∀ (l : List Dcl) {R R' : RT}, (∀ d ∈ l, DclOK d) → (∀ m ∈ R.means, 1 ≤ m.kind ∧ m.kind ≤ 4) → R.procs = [] → rdeclsB R l = .ok R' → (∀ m ∈ R'.means, 1 ≤ m.kind ∧ m.kind ≤ 4) ∧ R'.procs = []
 | [], R, R', _, h1, h2, e => by
  simp only [rdeclsB] at e
  cases e
  exact ⟨h1, h2⟩
 | d :: l, R, R', hd, h1, h2, e => by
  simp only [rdeclsB] at e
  cases hr : rdclB R d with
  | error q => rw [hr] at e; cases e
  | ok R1 =>
   rw [hr] at e
   unfold rdclB at hr
   split at hr
   · cases hr
   · split at hr
     · cases hr
     · split at hr
       · cases hr
       · cases hr
         refine rdecls_good l (R := rdclT R d) (fun d h => hd d (List.mem_cons_of_mem _ h)) ?_ h2 e
         intro m hm
         have hm : m ∈ R.means ++ [_] := hm
         rcases List.mem_append.1 hm with hm | hm
         · exact h1 m hm
         · rw [List.mem_singleton] at hm
           subst hm
           have := hd d List.mem_cons_self
           exact ⟨this.k1, this.k4⟩
theorem rprocs_good : ∀ (l : List Prc) {R R' : RT}, (∀ x, hasP R.names x = true → hasP R.procs x = false) → rprocsB R l = .ok R' → (∀ x, hasP R'.names x = true → hasP R'.procs x = false) ∧ R'.means = R.means
 | [], R, R', h1, e => by
  simp only [rprocsB] at e
  cases e
  exact ⟨h1, rfl⟩
 | p :: l, R, R', h1, e => by
  simp only [rprocsB] at e
  cases hr : rprcB R p with
  | error q => rw [hr] at e; cases e
  | ok R1 =>
   rw [hr] at e
   unfold rprcB at hr
   split at hr
   · cases hr
   · rename_i hn
     split at hr
     · cases hr
     · split at hr
       · cases hr
       · rename_i L _
         cases hr
         refine rprocs_good l (R := rprcT R p L) ?_ e
         intro x hx
         simp only [rprcT] at hx ⊢
         rw [hasP_snoc, h1 x hx, Bool.false_or]
         refine decide_eq_false fun h => hn (.inl ?_)
         rw [h]
         exact hx
theorem build_good {s : Src} {R : RT} (hd : ∀ d ∈ s.decls, DclOK d) (e : rbuildB s = .ok R) : RGood R := by
 unfold rbuildB at e
 cases h1 : rdeclsB rt0 s.decls with
 | error q => rw [h1] at e; cases e
 | ok R1 =>
  rw [h1] at e
  have q1 := rdecls_good s.decls hd (by intro m hm; cases hm) rfl h1
  have q2 := rprocs_good s.procs (R := R1) (by intro x _; rw [q1.2]; rfl) e
  refine ⟨fun x hx => ?_, fun m hm => ?_⟩
  · unfold isPrc
    rw [idx_has]
    exact q2.1 x (findP_has x _ _ hx)
  · rw [q2.2] at hm
    exact q1.1 m hm
end Go.Vm.Typing
namespace Go.Vm.Parse
open Go Go.Proofs
attribute [local simp] repCells_succ writeAt rd_Fr toList_beq gpe gpn spe gse gsn ne_r0 ne_l0 le_s0 ne_r1 ne_l1 lt_s1 le_s1 ne_r2 ne_l2 lt_s2 le_s2 ne_r3 ne_l3 lt_s3 le_s3 ne_r4 ne_l4 lt_s4 le_s4 ne_r5 ne_l5 lt_s5 le_s5 ne_r6 ne_l6 lt_s6 le_s6 ne_r7 ne_l7 lt_s7 le_s7
theorem no_bran : planOf Try.prog (drawN Try.f93 0) = none := by decide +kernel
theorem at_bran : ∃ os, lateAt (drawN Try.f93 0) = some ⟨8, 6, 164, os⟩ ∧ os.op = .store 164 (.tmp 6) (.tmp 16) := ⟨((drawN Try.f93 0)[9]?).getD ⟨none, .move (.tmp 0), 0, "", #[], none⟩, by kernel_rfl, by kernel_rfl⟩
theorem pl_bran : planOf Try.prog (lateA (drawN Try.f93 0)) = some [(some (0, 1)), (some (0, 1)), (some (0, 1)), (some (0, 1)), none, none, none, none, (some (0, 1))] := by decide +kernel
theorem z_bran : zeroT Try.prog 164 = some (.agg ⟨[.int .i64 0, .string ByteArray.empty, nl, nl]⟩) := by kernel_rfl
theorem v_bran (cs : List Value) : varObj Try.prog 164 cs = .row true 0 1 cs := by unfold varObj; simp
def bc4 (a : Int) (x : ByteArray) (v w : Value) : List Value := [.int .i64 a, .string x, v, w]
theorem RB.slices {H : Heap} {S : Nat → Prop} {b : Bra} {cs : List Value} (h : RB H S b cs) : ∃ a x a1 a2 a3 b1 b2 b3, cs = bc4 a x (.slice a1 a2 a3) (.slice b1 b2 b3) := by
 obtain ⟨v, w, rfl, h1, h2⟩ := h
 obtain ⟨b1, rfl⟩ := repEx.G_slice h1
 obtain ⟨b2, rfl⟩ := repItm.G_slice h2
 exact ⟨_, _, _, _, _, _, _, _, rfl⟩
section
variable {E : Hooks} (hE : Plain E) {r lid : Nat} {L : List Tk}
include hE
theorem bran_ok : BranOK E branP r lid L := by
 intro n lv s b s' hx h0 h24 H h
 have hr := h.lt
 have hl := h.lid_lt
 have hsm := h.small
 have aP : At (H.push (.row true 0 1 (bc4 0 ByteArray.empty nl nl))) r lid L s (H.push (.row true 0 1 (bc4 0 ByteArray.empty nl nl))) := ⟨Same.refl _ _, h.same (Same.push _ _ _)⟩
 obtain ⟨HA, eA, kA, hA⟩ := name_run hE aP.rd
 have aA := aP.go kA hA
 have nA := kA.n
 simp at nA
 unfold branP at hx
 simp only [Option.bind_eq_some_iff] at hx
 obtain ⟨⟨a1, s1⟩, hx1, hx2⟩ := hx
 have aB := (aA.push (.row true 0 1 (nameP L s).cells)).push .dead
 obtain ⟨o, HC, eC, v, rfl, kC, hC, gC⟩ := args_run hE h0 h24 hx1 aB.rd
 have aC := aB.go kC hC
 have nC := kC.n
 simp at nC
 obtain ⟨b0, rfl⟩ := repEx.G_slice gC
 have g1 : HC.get (HA.n + 1) = .dead := by
  rw [kC.get _ (by simp) (by omega)]
  exact Heap.get_push_self (HA.push (.row true 0 1 (nameP L s).cells)) .dead
 have g2 : HC.get HA.n = .row true 0 1 (nameP L s).cells := kC.at (by simp) (by simp) (by omega)
 have lC : Loc (H.push (.row true 0 1 (bc4 0 ByteArray.empty nl nl))) r lid L (HA.n + 1) s1 (bc4 (nameP L s).at_ (nameP L s).name (.slice b0 a1.length a1.length) nl) (HC.set (HA.n + 1) (.row true 0 1 (bc4 (nameP L s).at_ (nameP L s).name (.slice b0 a1.length a1.length) nl))) :=
  ⟨aC.set (by simp; omega) (by simp; omega) (by simp; omega) (by omega) _, Heap.get_set_self _ _ (by omega), by show HA.n + 1 < HC.n; omega, by simp; omega, by simp; omega, by simp; omega⟩
 have gX : repEx.G (HC.set (HA.n + 1) (.row true 0 1 (bc4 (nameP L s).at_ (nameP L s).name (.slice b0 a1.length a1.length) nl))) (fun i => HA.n + 1 < i) (.slice b0 a1.length a1.length) a1 :=
  repEx.G_set gC (by omega) (fun j hj => by simp at hj; exact ⟨by omega, by omega⟩) _
 obtain ⟨os, ea, eo⟩ := at_bran
 rw [c_branch hE, callB, bodyOf]
 simp only [Idn.cells, bc4] at eA eC g2 lC gX
 have q1 : HA.n + 1 < HC.n := by omega
 simp [Try.f93, eA]
 refine region_late (by exact no_bran) (by exact ea) (by exact pl_bran) (by exact z_bran) ?_
 simp [lateA, blank, eC, g2]
 rw [exLast_go q1 g1]
 simp [eo, q1, v_bran]
 have gK := lC.get
 have tK := lC.lt
 have t0 : H.n < HC.n := by omega
 by_cases c1 : isP L s1 tClaims = true
 · rw [if_pos c1] at hx2
   simp only [Option.map_eq_some_iff] at hx2
   obtain ⟨⟨l2, s2⟩, hx3, hx4⟩ := hx2
   cases hx4
   obtain ⟨HD, eD, lD, kD⟩ := lC.take_yes hE c1
   obtain ⟨HE, b, m, eE, lE, gE, kE⟩ := lD.items hE hx3
   have gKE := lE.get
   have tKE := lE.lt
   have g0 : HE.get H.n = .row true 0 1 (bc4 0 ByteArray.empty nl nl) := lE.at_.same.at (Heap.get_push_self _ _) (by simp) (by omega)
   have t0E := Heap.lt_of_get g0 (by simp)
   simp only [bc4] at g0
   simp only [tClaims] at eD
   obtain ⟨b3, e3⟩ := repItm.G_slice gE
   cases e3
   simp [eD, eE, gKE, tKE, g0, t0E, show ¬ H.n = HA.n + 1 by omega, show ¬ HA.n + 1 = H.n by omega]
   have lF := lE.put (bc4 (nameP L s).at_ (nameP L s).name (.slice b0 a1.length a1.length) (.slice b l2.length l2.length))
   refine ret_rep repBra hr hl lF.at_ ?_ _
   refine ⟨_, _, rfl, repEx.G_move (Same.refl (fun _ => False) _) (fun i hi _ => ⟨by omega, fun h => h⟩) (lE.fld_put (lD.fld (lC.fld gX kD) kE) _), repItm.G_move (Same.refl (fun _ => False) _) (fun i hi _ => ⟨by omega, fun h => h⟩) (lE.fld_put gE _)⟩
 · rw [if_neg c1] at hx2
   cases hx2
   have c1' : isP L s1 tClaims = false := by simpa using c1
   obtain ⟨HD, eD, lD, kD⟩ := lC.take_no hE c1'
   have gKD := lD.get
   have tKD := lD.lt
   have g0 : HD.get H.n = .row true 0 1 (bc4 0 ByteArray.empty nl nl) := lD.at_.same.at (Heap.get_push_self _ _) (by simp) (by omega)
   have t0D := Heap.lt_of_get g0 (by simp)
   simp only [bc4] at g0
   simp only [tClaims] at eD
   simp [eD, gKD, tKD, g0, t0D, show ¬ H.n = HA.n + 1 by omega, show ¬ HA.n + 1 = H.n by omega]
   refine ret_rep repBra hr hl lD.at_ ?_ _
   exact ⟨_, _, rfl, repEx.G_move (Same.refl (fun _ => False) _) (fun i hi _ => ⟨by omega, fun h => h⟩) (lC.fld gX kD), repItm.G_nil _ _⟩
end
end Go.Vm.Parse
namespace Go.Vm.Parse
open Go Go.Proofs
section
variable {E : Hooks} (hE : Plain E)
include hE
theorem parse_any {H : Heap} {v : Value} {src : List UInt8} (hv : isTuple v = false) (hall : AllOK E H v src) (hsm : src.length ≤ 4096) {n : Nat} {res : Src ⊕ (Int × Int)} (hx : parseP branP src n = some res) :
  Gives ((run Try.prog E).call 13 [v] H) (RetP H res) :=
 parse_walk0 hE (fun L n lv s b s' h => branP_lt h) (fun r lid L => bran_ok hE) hv hall hsm hx
end
theorem srcP_bad {B : BrP} {L : List Tk} {n : Nat} {c a : Int} (h : srcP B L n = some (.inr (c, a))) : c ≠ 0 := by
 simp only [srcP, Option.bind_eq_some_iff, Option.map_eq_some_iff] at h
 obtain ⟨d, _, p, _, q, _, b, _, h5⟩ := h
 split at h5
 · cases h5
 · rename_i hc
   simp only [Sum.inr.injEq, Prod.mk.injEq] at h5
   rw [← h5.1]; exact hc
theorem parseP_bad {B : BrP} {src : List UInt8} {n : Nat} {c a : Int} (h : parseP B src n = some (.inr (c, a))) : c ≠ 0 := by
 unfold parseP at h
 simp only [Option.bind_eq_some_iff] at h
 obtain ⟨q, h1, h2⟩ := h
 cases q with
 | inr f =>
  simp only [Option.some.injEq, Sum.inr.injEq] at h2
  subst h2
  exact lexFrom_bad h1
 | inl L => exact srcP_bad h2
end Go.Vm.Parse
namespace Go.Vm.Scope
open Go Go.Proofs Go.Vm.Parse
attribute [local simp] repCells_succ writeAt rd_Fr toList_beq gpe gpn spe gse gsn ne_r0 ne_l0 le_s0 ne_r1 ne_l1 lt_s1 le_s1 ne_r2 ne_l2 lt_s2 le_s2 ne_r3 ne_l3 lt_s3 le_s3 ne_r4 ne_l4 lt_s4 le_s4 ne_r5 ne_l5 lt_s5 le_s5 ne_r6 ne_l6 lt_s6 le_s6 ne_r7 ne_l7 lt_s7 le_s7
theorem decls_tok : ∀ (l : List Dcl) {T T' : Tab}, TOK T → (∀ d ∈ l, d.kind ≠ 1 → d.kind ≠ 2 → d.n ≤ 1099511627776) → declsB T l = .ok T' → TOK T'
 | [], T, T', h, _, e => by simp only [declsB, Except.ok.injEq] at e; rw [← e]; exact h
 | d :: l, T, T', h, hd, e => by
  rw [declsB] at e
  split at e
  · cases e
  · split at e
    · cases e
    · rename_i T1 h1
      exact decls_tok l (h.into (hd d (by simp)) h1) (fun d hd' => hd d (by simp [hd'])) e
theorem procs_tok : ∀ (l : List Prc) {T T' : Tab}, TOK T → procsB procB T l = .ok T' → TOK T'
 | [], T, T', h, e => by simp only [procsB, Except.ok.injEq] at e; rw [← e]; exact h
 | p :: l, T, T', h, e => by
  rw [procsB] at e
  unfold procB at e
  split at e
  · cases e
  · rename_i T1 h1
    split at h1
    · cases h1
    · split at h1
      · cases h1
      · split at h1
        · cases h1
        · rename_i l1 hl1
          cases h1
          have hq : ¬ 12 ≤ T.procs.length := by assumption
          exact procs_tok l (T := procT T p l1) ⟨h.t, h.s, h.c, h.w0, h.w1, h.r, by simp [procT]; omega, by simp [procT]; exact h.l, by simp [procT]; exact h.p⟩ e
theorem build_tok {s : Src} {T : Tab} (hd : ∀ d ∈ s.decls, d.kind ≠ 1 → d.kind ≠ 2 → d.n ≤ 1099511627776) (e : buildP procB s = .ok T) : TOK T := by
 unfold buildP at e
 split at e
 · cases e
 · rename_i T1 h1
   exact procs_tok _ (decls_tok _ tab0_ok hd h1) e
theorem rdecls_len : ∀ (l : List Dcl) {R R' : RT}, rdeclsB R l = .ok R' → R'.names.length = R.names.length + l.length
 | [], R, R', e => by simp only [rdeclsB, Except.ok.injEq] at e; rw [← e]; rfl
 | d :: l, R, R', e => by
  rw [rdeclsB] at e
  split at e
  · cases e
  · rename_i R1 h1
    have := rdecls_len l e
    unfold rdclB at h1
    split at h1
    · cases h1
    · split at h1
      · cases h1
      · split at h1
        · cases h1
        · cases h1
          rw [this]
          simp [rdclT]
          omega
theorem rprocs_names : ∀ (l : List Prc) {R R' : RT}, rprocsB R l = .ok R' → R'.names = R.names
 | [], R, R', e => by simp only [rprocsB, Except.ok.injEq] at e; rw [← e]
 | p :: l, R, R', e => by
  rw [rprocsB] at e
  split at e
  · cases e
  · rename_i R1 h1
    have := rprocs_names l e
    unfold rprcB at h1
    split at h1
    · cases h1
    · split at h1
      · cases h1
      · split at h1
        · cases h1
        · cases h1
          exact this
theorem build_rok {s : Src} {T : Tab} {R : RT} (hT : TOK T) (ha : Agree T R) (hl : s.decls.length ≤ 100000) (e : rbuildB s = .ok R) : ROK R := by
 unfold rbuildB at e
 split at e
 · cases e
 · rename_i R1 h1
   have l1 := rdecls_len _ h1
   have l2 := rprocs_names _ e
   simp [rt0] at l1
   have q := hT.q
   rw [ha.a7, numF_len] at q
   exact ⟨ha.n1, ha.n2, ha.n3, ha.n4, by rw [l2]; omega, by omega, fun l h => by have := ha.l3 l h; omega, ha.sz⟩
section
variable {E : Hooks} (hE : Plain E)
include hE
end
end Go.Vm.Scope
namespace Go.Vm.Parse
open Go Go.Proofs
theorem conv_text2 (x : ByteArray) (H : Heap) : exConvert Try.prog 9 22 (.string x) H = some (.slice (some ⟨H.n, 0, none⟩) x.size x.size, H.push (.row true 1 1 (bytesOf x))) := by
 simp [exConvert]
theorem text_BS2 (x : ByteArray) (H : Heap) : BS (H.push (.row true 1 1 (bytesOf x))) H.n 0 x.size x.data.toList := by
 obtain ⟨⟨l⟩⟩ := x
 refine ⟨true, 1, 1, _, Heap.get_push_self _ _, ?_, ?_, ?_⟩
 · simp [bytesOf]
 · simp [ByteArray.size]
 · simp [bytesOf]
   rw [List.take_of_length_le (by simp)]
   rfl
end Go.Vm.Parse
namespace Go.Vm.Typing
open Go Go.Proofs Go.Vm.Parse Go.Vm.Scope
attribute [local simp] repCells_succ writeAt rd_Fr toList_beq gpe gpn spe gse gsn ne_r0 ne_l0 le_s0 ne_r1 ne_l1 lt_s1 le_s1 ne_r2 ne_l2 lt_s2 le_s2 ne_r3 ne_l3 lt_s3 le_s3 ne_r4 ne_l4 lt_s4 le_s4 ne_r5 ne_l5 lt_s5 le_s5 ne_r6 ne_l6 lt_s6 le_s6 ne_r7 ne_l7 lt_s7 le_s7
def FrontQ (H : Heap) (res : Src ⊕ (Int × Int)) (o : Out) (H' : Heap) : Prop :=
 Same (fun _ => False) H H' ∧ ∃ y a1 a2 a3 b1 b2 b3 c1 c2 c3 d1 d2 d3 t w f, o = .val (.tuple #[.agg ⟨sr5 y (.slice a1 a2 a3) (.slice b1 b2 b3) (.slice c1 c2 c3) (.slice d1 d2 d3)⟩, .pointer t, .pointer w, .bool f]) ∧
  match res with
  | .inr _ => f = false
  | .inl S => match rbuildB S with
   | .error _ => f = false
   | .ok R => f = true ∧ ∃ (tid rtid n : Nat) (col col' : Nat → Nat) (T : Tab) (nid pid rid : Nat) (v1 v2 v3 v4 v5 w1 w2 w3 w4 w5 w6 : Value), t = some ⟨tid, 0, none⟩ ∧ w = some ⟨rtid, 0, none⟩ ∧
    RTab H' col tid nid pid rid v1 v2 v3 v4 v5 T ∧ RRef H' col' rtid w1 w2 w3 w4 w5 w6 R ∧ Scope.Agree T R ∧ TOK T ∧ ROK R ∧ RGood R ∧ RSrc H' (fun _ => True) S (sr5 y (.slice a1 a2 a3) (.slice b1 b2 b3) (.slice c1 c2 c3) (.slice d1 d2 d3)) ∧ SrcOK S n ∧ n ≤ 100000
theorem pl_talike : planOf Try.prog (drawN Try.f8 0) = some [none, none, none, some (0, 1), some (0, 1), none, none, none] := by decide +kernel
theorem fault_eql (x y : Operand) (a b c d : Int) : exBin Try.prog .eql 32 x y (.agg ⟨[.int .i64 a, .int .i64 b]⟩) (.agg ⟨[.int .i64 c, .int .i64 d]⟩) = some (.bool (decide (a = c) && decide (b = d))) :=
 (bin_struct und_fault held_fault gt_fault rfl rfl (fe_fault a b c d)).1
def faultP : Src ⊕ (Int × Int) → Int × Int
 | .inr _ => (4, 0)
 | .inl S => match rbuildB S with
  | .error _ => (4, 0)
  | .ok R => (fc (checkB R S), fa (checkB R S))
theorem stK_facts (HP : Heap) (z cs : List Value) (c a : Int) :
  Same (fun _ => False) HP ((((HP.push (.row true 0 1 z)).push (.row true 0 1 [.int .i64 0, .int .i64 0])).set HP.n (.row true 0 1 cs)).set (HP.n + 1) (.row true 0 1 [.int .i64 c, .int .i64 a])) ∧
  ((((HP.push (.row true 0 1 z)).push (.row true 0 1 [.int .i64 0, .int .i64 0])).set HP.n (.row true 0 1 cs)).set (HP.n + 1) (.row true 0 1 [.int .i64 c, .int .i64 a])).get HP.n = .row true 0 1 cs ∧
  ((((HP.push (.row true 0 1 z)).push (.row true 0 1 [.int .i64 0, .int .i64 0])).set HP.n (.row true 0 1 cs)).set (HP.n + 1) (.row true 0 1 [.int .i64 c, .int .i64 a])).n = HP.n + 2 :=
 ⟨Same.then_set (Same.then_set ((Same.push _ _ _).then_push _) (by simp) (.inr (by simp)) _) (by simp) (.inr (by simp)) _, by rw [Heap.get_set _ _ _ (by simp), if_neg (by simp)]; exact Heap.get_set_self _ _ (by simp), rfl⟩
section
variable {E : Hooks} (hE : Plain E)
include hE
theorem c_front (args : List Value) (H : Heap) : (run Try.prog E).call 31 args H = callB Try.prog E Try.f31 args H := call_B Try.func31 rfl (by decide +kernel) (hE.no _ rfl rfl) args H
theorem front_run {H : Heap} {b : ByteArray} (hb : b.size ≤ 4096) {n : Nat} {res : Src ⊕ (Int × Int)} (hx : parseP branP b.data.toList n = some res) :
  Gives ((run Try.prog E).call 31 [.string b] H) (FrontQ H res) := by
 rw [c_front hE, callB, bodyOf]
 have hsz : b.data.toList.length = b.size := by obtain ⟨⟨l⟩⟩ := b; rfl
 have cv := conv_text2 b (H.push (.row true 0 1 [.string ByteArray.empty, .slice none 0 0, .slice none 0 0, .slice none 0 0, .slice none 0 0]))
 have kH : Same (fun _ => False) H ((H.push (.row true 0 1 [.string ByteArray.empty, .slice none 0 0, .slice none 0 0, .slice none 0 0, .slice none 0 0])).push (.row true 1 1 (bytesOf b))) := (Same.push _ _ _).then_push _
 have hbs := text_BS2 b (H.push (.row true 0 1 [.string ByteArray.empty, .slice none 0 0, .slice none 0 0, .slice none 0 0, .slice none 0 0]))
 have hall := AllOK.bs hE hbs (by rw [hsz]; exact hb)
 obtain ⟨o, HP, eP, hP⟩ := parse_any hE rfl hall (by rw [hsz]; exact hb) hx
 rw [hsz] at eP
 have n0 : ∀ o, (H.push o).n = H.n + 1 := fun _ => rfl
 simp only [n0] at eP cv
 have g0 : ((H.push (.row true 0 1 [.string ByteArray.empty, .slice none 0 0, .slice none 0 0, .slice none 0 0, .slice none 0 0])).push (.row true 1 1 (bytesOf b))).get H.n = .row true 0 1 [.string ByteArray.empty, .slice none 0 0, .slice none 0 0, .slice none 0 0, .slice none 0 0] := by
  rw [Heap.get_push_lt _ _ (Nat.lt_succ_self _), Heap.get_push_self]
 cases res with
 | inr f =>
  obtain ⟨c, a⟩ := f
  have hc := parseP_bad hx
  obtain ⟨kP, rfl⟩ := hP
  have g1 := kP.at g0 (by simp) (fun h => h)
  simp only [sr5, nl] at eP
  obtain ⟨kK, gK, nK⟩ := stK_facts HP [.string ByteArray.empty, .slice none 0 0, .slice none 0 0, .slice none 0 0, .slice none 0 0] [.string ByteArray.empty, .slice none 0 0, .slice none 0 0, .slice none 0 0, .slice none 0 0] c a
  have g2 := kK.at g1 (by simp) (fun h => h)
  simp [Try.f31, cv, eP, hc]
  generalize (((HP.push (.row true 0 1 [.string ByteArray.empty, .slice none 0 0, .slice none 0 0, .slice none 0 0, .slice none 0 0])).push (.row true 0 1 [.int .i64 0, .int .i64 0])).set HP.n (.row true 0 1 [.string ByteArray.empty, .slice none 0 0, .slice none 0 0, .slice none 0 0, .slice none 0 0])).set (HP.n + 1) (.row true 0 1 [.int .i64 c, .int .i64 a]) = K at *
  have g3 : ∀ o, (K.set H.n o).get H.n = o := fun o => Heap.get_set_self _ _ (Heap.lt_of_get g2 (by simp))
  simp [g2, g3]
  refine ⟨((kH.trans kP).trans kK).then_set (Heap.lt_of_get g2 (by simp)) (.inr (Nat.le_refl _)) _, _, _, _, _, _, _, _, _, _, _, _, _, _, _, _, _, rfl, rfl⟩
 | inl S =>
  obtain ⟨kP, cs, rfl, hRS⟩ := hP
  have sok := parse_ok hx
  rw [hsz] at sok
  obtain ⟨y, a1, a2, a3, b1, b2, b3, c1, c2, c3, d1, d2, d3, rfl⟩ := hRS.slices
  have g1 := kP.at g0 (by simp) (fun h => h)
  simp only [sr5] at eP
  have hsz2 := sok.size
  have hlp := Parse.szPs_len S.procs
  obtain ⟨kK, gK, nK⟩ := stK_facts HP [.string ByteArray.empty, .slice none 0 0, .slice none 0 0, .slice none 0 0, .slice none 0 0] [.string y, .slice a1 a2 a3, .slice b1 b2 b3, .slice c1 c2 c3, .slice d1 d2 d3] 0 0
  have g2 := kK.at g1 (by simp) (fun h => h)
  have hRS2 := hRS.move (S' := fun i => H.n < i ∧ i < HP.n + 2) kK (fun j hj hlt => ⟨⟨by have hj : H.n + 1 + 1 ≤ j := hj; omega, by omega⟩, fun h => h⟩)
  simp [Try.f31, cv, eP]
  generalize (((HP.push (.row true 0 1 [.string ByteArray.empty, .slice none 0 0, .slice none 0 0, .slice none 0 0, .slice none 0 0])).push (.row true 0 1 [.int .i64 0, .int .i64 0])).set HP.n (.row true 0 1 [.string y, .slice a1 a2 a3, .slice b1 b2 b3, .slice c1 c2 c3, .slice d1 d2 d3])).set (HP.n + 1) (.row true 0 1 [.int .i64 0, .int .i64 0]) = K at *
  have hdn : ∀ d ∈ S.decls, d.kind ≠ 1 → d.kind ≠ 2 → d.n ≤ 1099511627776 := fun d hd k1 k2 => by
   have := sok.decls d hd
   have := this.n2 (by have := this.k1; omega)
   omega
  have hpq : ∀ p ∈ S.procs, p.params.length + p.vars.length ≤ 100000 := fun p hp => by
   have := Parse.szPs_mem hp
   unfold szP at this
   omega
  obtain ⟨oB, KB, eB, hB⟩ := Scope.build_run hE (one := procB) (.inr (proc_ok8 hE)) (RSrc.move (Same.refl (fun _ => False) K) (fun j hj _ => ⟨by rw [nK]; exact hj.2, fun h => h⟩) hRS2) hdn hpq (by omega) (by omega)
  have kB := hB.1
  have both := both_build S sok.decls
  simp only [sr5] at eB
  have kHB : Same (fun _ => False) H KB := ((kH.trans kP).trans kK).trans kB
  have gKB := kB.at gK (by simp) (fun h => h)
  have g2B := kB.at g2 (by simp) (fun h => h)
  have gKB1 : ∀ o, (KB.push o).get HP.n = _ := fun o => (Heap.get_push_lt KB o (Heap.lt_of_get gKB (by simp))).trans gKB
  have g2B1 : ∀ o, (KB.push o).get H.n = _ := fun o => (Heap.get_push_lt KB o (Heap.lt_of_get g2B (by simp))).trans g2B
  cases hb2 : buildP procB S with
  | error e =>
   obtain ⟨c, a⟩ := e
   rw [hb2] at hB both
   obtain ⟨_, rfl⟩ := hB
   cases hr : rbuildB S with
   | ok R => rw [hr] at both; exact both.elim
   | error e' =>
    rw [hr] at both
    have both : (c, a) = e' := both
    subst both
    obtain ⟨oR, KR, eR, hRr⟩ := rbuild_run hE (H := KB.push (.row true 0 1 [.int .i64 c, .int .i64 a])) (RSrc.move (kB.then_push _) (fun j hj _ => ⟨by have := kB.n; have := hj.2; simp; omega, fun h => h⟩) hRS2) (fun d hd => ⟨(sok.decls d hd).k1, (sok.decls d hd).k4⟩) hpq (by omega) (by omega)
    rw [hr] at hRr
    obtain ⟨kR, rfl⟩ := hRr
    try simp only [sr5] at eR
    have kRp : Same (fun _ => False) (KB.push (.row true 0 1 [.int .i64 c, .int .i64 a])) (KR.push (.row true 0 1 [.int .i64 c, .int .i64 a])) := kR.then_push _
    have g8 := kRp.at (Heap.get_push_self KB _) (by simp) (fun h => h)
    have gK8 := kRp.at (gKB1 _) (by simp) (fun h => h)
    have g28 := kRp.at (g2B1 _) (by simp) (fun h => h)
    have kHR : Same (fun _ => False) H (KR.push (.row true 0 1 [.int .i64 c, .int .i64 a])) := (kHB.trans (Same.push _ _ _)).trans kRp
    simp [gK, eB, gKB1, eR]
    generalize KR.push (.row true 0 1 [.int .i64 c, .int .i64 a]) = K2 at *
    have g3 : ∀ o, (K2.set H.n o).get H.n = o := fun o => Heap.get_set_self _ _ (Heap.lt_of_get g28 (by simp))
    have kF := fun o => kHR.then_set (Heap.lt_of_get g28 (by simp)) (.inr (Nat.le_refl _)) o
    by_cases hc0 : c = 0
    · subst hc0
      simp [g8, gK8, g28, g3]
      refine ⟨kF _, _, _, _, _, _, _, _, _, _, _, _, _, _, _, _, _, rfl, ?_⟩
      simp only []
      rw [hr]
      exact trivial
    · simp [g8, gK8, g28, g3, hc0]
      refine ⟨kF _, _, _, _, _, _, _, _, _, _, _, _, _, _, _, _, _, rfl, ?_⟩
      simp only []
      rw [hr]
      exact trivial
  | ok T =>
   rw [hb2] at hB both
   obtain ⟨_, colT, tid, nid, pid, rid, v1, v2, v3, v4, v5, rfl, hT, zT⟩ := hB
   cases hr : rbuildB S with
   | error e' => rw [hr] at both; exact both.elim
   | ok R =>
    rw [hr] at both
    have ha : Scope.Agree T R := both
    have hok := build_tok hdn hb2
    have rok := build_rok hok ha (by omega) hr
    have hgd := build_good sok.decls hr
    obtain ⟨oR, KR, eR, hRr⟩ := rbuild_run hE (H := KB.push (.row true 0 1 [.int .i64 0, .int .i64 0])) (RSrc.move (kB.then_push _) (fun j hj _ => ⟨by have := kB.n; have := hj.2; simp; omega, fun h => h⟩) hRS2) (fun d hd => ⟨(sok.decls d hd).k1, (sok.decls d hd).k4⟩) hpq (by omega) (by omega)
    rw [hr] at hRr
    obtain ⟨kR, colR, rtid, w1, w2, w3, w4, w5, w6, rfl, hR, zR⟩ := hRr
    try simp only [sr5] at eR
    have kRp : Same (fun _ => False) (KB.push (.row true 0 1 [.int .i64 0, .int .i64 0])) (KR.push (.row true 0 1 [.int .i64 0, .int .i64 0])) := kR.then_push _
    have g8 := kRp.at (Heap.get_push_self KB _) (by simp) (fun h => h)
    have gK8 := kRp.at (gKB1 _) (by simp) (fun h => h)
    have g28 := kRp.at (g2B1 _) (by simp) (fun h => h)
    have kHR : Same (fun _ => False) H (KR.push (.row true 0 1 [.int .i64 0, .int .i64 0])) := (kHB.trans (Same.push _ _ _)).trans kRp
    have hTR := hT.keep (((Same.push _ _ _).trans kRp) : Same (fun _ => False) KB _) (fun _ h => h.elim)
    have hRR := hR.keep (Same.push (fun _ => False) KR (.row true 0 1 [.int .i64 0, .int .i64 0])) (fun _ h => h.elim)
    have hSR := RSrc.move (S' := fun i => H.n < i ∧ i < HP.n + 2) ((kB.trans (Same.push _ _ _)).trans kRp) (fun j hj _ => ⟨hj, fun h => h⟩) hRS2
    simp [gK, eB, gKB1, eR]
    generalize KR.push (.row true 0 1 [.int .i64 0, .int .i64 0]) = K2 at *
    have hln : H.n < K2.n := Heap.lt_of_get g28 (by simp)
    have g3 : ∀ o, (K2.set H.n o).get H.n = o := fun o => Heap.get_set_self _ _ hln
    have kF := fun o => kHR.then_set hln (.inr (Nat.le_refl _)) o
    simp [g8, gK8, g28, g3]
    have kS : ∀ o, Same (fun i => i = H.n) K2 (K2.set H.n o) := fun o => Same.then_set (X := fun i => i = H.n) (Same.refl _ _) hln (.inl rfl) o
    have lKH : H.n < K.n := Heap.lt_of_get g2 (by simp)
    refine ⟨kF _, _, _, _, _, _, _, _, _, _, _, _, _, _, _, _, _, rfl, ?_⟩
    simp only []
    rw [hr]
    refine ⟨trivial, tid, rtid, b.size + 1, colT, colR, T, nid, pid, rid, v1, v2, v3, v4, v5, w1, w2, w3, w4, w5, w6, rfl, rfl, hTR.keep (kS _) (fun i hi => ?_), hRR.keep (kS _) (fun i hi => ?_), ha, hok, rok, hgd, hSR.move (kS _) (fun j hj _ => ⟨trivial, fun e => by have := hj.1; omega⟩), sok, by omega⟩
    · subst hi
      exact zT _ lKH
    · subst hi
      exact zR _ (by have := kB.n; simp; omega)
theorem c_fault27 (args : List Value) (H : Heap) : (run Try.prog E).call 12 args H = callB Try.prog E Try.f12 args H := call_B Try.func12 rfl (by decide +kernel) (hE.no _ rfl rfl) args H
theorem c_alike27 (args : List Value) (H : Heap) : (run Try.prog E).call 8 args H = callB Try.prog E Try.f8 args H := call_B Try.func8 rfl (by decide +kernel) (hE.no _ rfl rfl) args H
theorem fault_run {H : Heap} {b : ByteArray} (hb : b.size ≤ 4096) {n : Nat} {res : Src ⊕ (Int × Int)} (hx : parseP branP b.data.toList n = some res) :
  ∃ H', (run Try.prog E).call 12 [.string b] H = some (.val (.agg ⟨[.int .i64 (faultP res).1, .int .i64 (faultP res).2]⟩), H') ∧ Same (fun _ => False) H H' := by
 refine of_gives ?_
 rw [c_fault27 hE, callB, bodyOf]
 obtain ⟨o, H1, e1, k1, y, a1, a2, a3, b1, b2, b3, c1, c2, c3, d1, d2, d3, t, w, f, rfl, hf⟩ := front_run hE (H := H.push (.row true 0 1 [.int .i64 0, .int .i64 0])) hb hx
 simp only [sr5] at e1
 have kH1 : Same (fun _ => False) H H1 := Same.trans (Same.push _ _ _) k1
 have g1 := k1.at (Heap.get_push_self H (.row true 0 1 [.int .i64 0, .int .i64 0])) (by simp) (fun h => h)
 have l1 := Heap.lt_of_get g1 (by simp)
 have kp : Same (fun _ => False) H1 (H1.push (.row true 0 1 [.string y, .slice a1 a2 a3, .slice b1 b2 b3, .slice c1 c2 c3, .slice d1 d2 d3])) := Same.push _ _ _
 have g2 := kp.at g1 (by simp) (fun h => h)
 have gs : (H1.push (.row true 0 1 [.string y, .slice a1 a2 a3, .slice b1 b2 b3, .slice c1 c2 c3, .slice d1 d2 d3])).get H1.n = _ := Heap.get_push_self H1 _
 cases f with
 | false =>
  have hp : faultP res = (4, 0) := by
   unfold faultP
   cases res with
   | inr q => rfl
   | inl S =>
    simp only [] at hf ⊢
    cases hr : rbuildB S with
    | error q => rfl
    | ok R => rw [hr] at hf; cases hf.1
  rw [hp]
  have l2 := Heap.lt_of_get g2 (by simp)
  have g3 : ∀ o, ((H1.push (.row true 0 1 [.string y, .slice a1 a2 a3, .slice b1 b2 b3, .slice c1 c2 c3, .slice d1 d2 d3])).set H.n o).get H.n = o := fun o => Heap.get_set_self _ _ l2
  simp [Try.f12, e1, g2, g3]
  exact (kH1.trans kp).then_set l2 (.inr (Nat.le_refl _)) _
 | true =>
  cases res with
  | inr q => cases hf
  | inl S =>
   simp only [] at hf
   cases hr : rbuildB S with
   | error q => rw [hr] at hf; cases hf
   | ok R =>
    rw [hr] at hf
    obtain ⟨_, tid, rtid, n, col, col', T, nid, pid, rid, v1, v2, v3, v4, v5, w1, w2, w3, w4, w5, w6, rfl, rfl, hT, hR, ha, hok, rok, hgd, hS, sok, hn⟩ := hf
    have hp : faultP (.inl S) = (fc (checkB R S), fa (checkB R S)) := by unfold faultP; simp only []; rw [hr]
    rw [hp]
    obtain ⟨K, e2, k2⟩ := tcheck_run hE ha hok hgd (hT.keep kp fun _ h => h.elim) (hS.move kp fun j hj _ => ⟨hj, fun h => h⟩) sok hn
    simp only [sr5] at e2
    have gK := k2.at g2 (by simp) (fun h => h)
    have lK := Heap.lt_of_get gK (by simp)
    have g3 : ∀ o, (K.set H.n o).get H.n = o := fun o => Heap.get_set_self _ _ lK
    simp [Try.f12, e1, e2, gK, g3]
    exact ((kH1.trans kp).trans k2).then_set lK (.inr (Nat.le_refl _)) _
theorem alike27_run {H : Heap} {v : Value} {l : List UInt8} (hv : isTuple v = false) (hc : exConvert Try.prog 22 9 v H = some (.string ⟨⟨l⟩⟩, H)) (hb : l.length ≤ 4096) :
  Gives ((run Try.prog E).call 8 [v] H) fun o H' => o = .val (.bool true) := by
 obtain ⟨n, res, hx⟩ := parse_ans l
 obtain ⟨o, H1, e1, k1, y, a1, a2, a3, b1, b2, b3, c1, c2, c3, d1, d2, d3, t, w, f, rfl, hf⟩ := front_run hE (H := H) (b := ⟨⟨l⟩⟩) hb hx
 simp only [sr5] at e1
 rw [c_alike27 hE, callB, bodyOf]
 cases f with
 | false => simp [Try.f8, hc, e1]
 | true =>
  cases res with
  | inr q => cases hf
  | inl S =>
   simp only [] at hf
   cases hr : rbuildB S with
   | error q => rw [hr] at hf; cases hf
   | ok R =>
    rw [hr] at hf
    obtain ⟨_, tid, rtid, n, col, col', T, nid, pid, rid, v1, v2, v3, v4, v5, w1, w2, w3, w4, w5, w6, rfl, rfl, hT, hR, ha, hok, rok, hgd, hS, sok, hn⟩ := hf
    have kp : Same (fun _ => False) H1 (H1.push (.row true 0 1 [.string y, .slice a1 a2 a3, .slice b1 b2 b3, .slice c1 c2 c3, .slice d1 d2 d3])) := Same.push _ _ _
    have gs : (H1.push (.row true 0 1 [.string y, .slice a1 a2 a3, .slice b1 b2 b3, .slice c1 c2 c3, .slice d1 d2 d3])).get H1.n = _ := Heap.get_push_self H1 _
    obtain ⟨K, e2, k2⟩ := tcheck_run hE ha hok hgd (hT.keep kp fun _ h => h.elim) (hS.move kp fun j hj _ => ⟨hj, fun h => h⟩) sok hn
    have gK := k2.at gs (by simp) (fun h => h)
    obtain ⟨K3, e3, k3⟩ := kcheck_run hE (hR.keep (kp.trans k2) fun _ h => h.elim) rok hgd (hS.move (kp.trans k2) fun j hj _ => ⟨hj, fun h => h⟩) sok hn
    simp only [sr5] at e2 e3
    have g3 := k3.at gK (by simp) (fun h => h)
    simp [Try.f8, hc, e1]
    refine region_plan (by exact pl_talike) ?_
    simp [drawF, gs, e2, gK, e3, g3, fault_eql]
end
def kindP (f : Option Flt) (n : Int) : Int := match f with
 | none => n
 | some _ => 0
theorem RE.six {H : Heap} {S : Nat → Prop} {x : Ex} {cs : List Value} (h : RE H S x cs) : ∃ k a n o y b m, cs = [.int .i64 k, .int .i64 a, .int .i64 n, .int .i64 o, .string y, .slice b m m] := by
 obtain ⟨kind, at_, num, op, name, sub⟩ := x
 simp only [RE] at h
 obtain ⟨v, rfl, h⟩ := h
 rcases h with ⟨rfl, _⟩ | ⟨id, tl, cs', rfl, _⟩
 · exact ⟨_, _, _, _, _, _, _, rfl⟩
 · exact ⟨_, _, _, _, _, _, _, rfl⟩
theorem pl_ttype : planOf Try.prog (drawN Try.f34 0) = some [none, some (0, 1), none, none] := by decide +kernel
section
variable {E : Hooks} (hE : Plain E)
include hE
theorem c_ttype1 (args : List Value) (H : Heap) : (run Try.prog E).call 67 args H = callB Try.prog E Try.f67 args H := call_B Try.func67 rfl (by decide +kernel) (hE.no _ rfl rfl) args H
theorem c_ttype (args : List Value) (H : Heap) : (run Try.prog E).call 34 args H = callB Try.prog E Try.f34 args H := call_B Try.func34 rfl (by decide +kernel) (hE.no _ rfl rfl) args H
variable {R : RT} {T : Tab} (ha : Scope.Agree T R) (hok : TOK T) (hgd : RGood R)
include ha hok hgd
theorem ttype1_run {H0 : Heap} {tid : Nat} {col : Nat → Nat} {nid pid rid : Nat} {v1 v2 v3 v4 v5 : Value} (hT : RTab H0 col tid nid pid rid v1 v2 v3 v4 v5 T) {S : Nat → Prop} {x : Ex} {xs : List Value} (hx : RE H0 S x xs) (wf : WFx x) {p : Int}
  {ti pi xi ki : Nat} (gt : H0.get ti = .row true 0 1 [.pointer (some ⟨tid, 0, none⟩)]) (gp : H0.get pi = .row true 0 1 [.int .i64 p]) (gx : H0.get xi = .row true 0 1 xs) (gk : H0.get ki = .row true 0 1 [.int .i64 0]) :
  ∃ H', (run Try.prog E).call 67 [.pointer (some ⟨ti, 0, none⟩), .pointer (some ⟨pi, 0, none⟩), .pointer (some ⟨xi, 0, none⟩), .pointer (some ⟨ki, 0, none⟩)] H0 = some (outF (exB R ⟨p, [], ByteArray.empty⟩ x), H') ∧ Same (fun i => i = ki) H0 H' ∧ H'.get ki = .row true 0 1 [.int .i64 (kindP (exB R ⟨p, [], ByteArray.empty⟩ x) (tyP x))] := by
 refine of_gives ?_
 have c0 := CT.fresh1 (Same.refl (fun _ => False) H0) tid p
 have gxp : ∀ o, (H0.push o).get xi = .row true 0 1 xs := fun o => (Heap.get_push_lt H0 o (Heap.lt_of_get gx (by simp))).trans gx
 obtain ⟨K, e1, k1⟩ := texpr_run hE hT ha hok hgd _ x (Nat.lt_succ_self _) wf c0 hx
 have kK : Same (fun _ => False) H0 K := Same.trans (Same.push _ _ _) k1
 have gkK := kK.at gk (by simp) (fun h => h)
 have lk := Heap.lt_of_get gkK (by simp)
 obtain ⟨q1, q2, q3, q4, y, b, m, rfl⟩ := Typing.RE.six hx
 rw [c_ttype1 hE, callB, bodyOf]
 cases hf : exB R ⟨p, [], ByteArray.empty⟩ x with
 | some q =>
  rw [hf] at e1
  simp only [outX] at e1
  simp [Try.f67, gt, gp, gxp, e1, outF, kindP]
  exact ⟨kK.none, gkK⟩
 | none =>
  rw [hf] at e1
  simp only [outX] at e1
  simp [Try.f67, gt, gp, gxp, e1, outF, kindP, gkK]
  exact ⟨Same.then_set (X := fun i => i = ki) kK.none lk (.inl rfl) _, Heap.get_set_self _ _ lk⟩
theorem ttype_run {H : Heap} {tid : Nat} {col : Nat → Nat} {nid pid rid : Nat} {v1 v2 v3 v4 v5 : Value} (hT : RTab H col tid nid pid rid v1 v2 v3 v4 v5 T) {S : Nat → Prop} {x : Ex} {xs : List Value} (hx : RE H S x xs) (wf : WFx x) {p : Int} {y : ByteArray} {a1 b1 c1 d1 : Option Addr} {a2 a3 b2 b3 c2 c3 d2 d3 : Nat} :
  ∃ H', (run Try.prog E).call 34 [.agg ⟨[.string y, .slice a1 a2 a3, .slice b1 b2 b3, .slice c1 c2 c3, .slice d1 d2 d3]⟩, .pointer (some ⟨tid, 0, none⟩), .int .i64 p, .agg ⟨xs⟩] H = some (.val (.tuple #[.int .i64 (kindP (exB R ⟨p, [], ByteArray.empty⟩ x) (tyP x)), .agg ⟨[.int .i64 (fc (exB R ⟨p, [], ByteArray.empty⟩ x)), .int .i64 (fa (exB R ⟨p, [], ByteArray.empty⟩ x))]⟩]), H') ∧ Same (fun _ => False) H H' := by
 refine of_gives ?_
 obtain ⟨q1, q2, q3, q4, z, b, m, rfl⟩ := Typing.RE.six hx
 obtain ⟨Hb, hHb⟩ : ∃ Hb, Hb = (((((H.push (.row true 0 1 [.string y, .slice a1 a2 a3, .slice b1 b2 b3, .slice c1 c2 c3, .slice d1 d2 d3])).push (.row true 0 1 [.pointer (some ⟨tid, 0, none⟩)])).push (.row true 0 1 [.int .i64 p])).push (.row true 0 1 [.int .i64 q1, .int .i64 q2, .int .i64 q3, .int .i64 q4, .string z, .slice b m m])).push (.row true 0 1 [.int .i64 0])).push (.row true 0 1 [.int .i64 0, .int .i64 0]) := ⟨_, rfl⟩
 have kb : Same (fun _ => False) H Hb := by rw [hHb]; exact (((((Same.push _ _ _).then_push _).then_push _).then_push _).then_push _).then_push _
 have nb : Hb.n = H.n + 6 := by rw [hHb]; rfl
 have gt : Hb.get (H.n + 1) = .row true 0 1 [.pointer (some ⟨tid, 0, none⟩)] := by rw [hHb]; simp [Heap.get_push]
 have gp : Hb.get (H.n + 2) = .row true 0 1 [.int .i64 p] := by rw [hHb]; simp [Heap.get_push]
 have gx : Hb.get (H.n + 3) = .row true 0 1 [.int .i64 q1, .int .i64 q2, .int .i64 q3, .int .i64 q4, .string z, .slice b m m] := by rw [hHb]; simp [Heap.get_push]
 have gk : Hb.get (H.n + 4) = .row true 0 1 [.int .i64 0] := by rw [hHb]; simp [Heap.get_push]
 have gf : Hb.get (H.n + 5) = .row true 0 1 [.int .i64 0, .int .i64 0] := by rw [hHb]; simp [Heap.get_push]
 have kq : Same (fun _ => False) Hb (Hb.push (.row true 0 1 [.int .i64 0, .int .i64 0])) := Same.push _ _ _
 obtain ⟨K, e1, k1, g1⟩ := ttype1_run hE ha hok hgd (hT.keep (kb.trans kq) fun _ h => h.elim) (RE.move (S' := fun _ => True) (kb.trans kq) (fun _ _ _ => ⟨trivial, fun h => h⟩) _ _ hx) wf (kq.at gt (by simp) fun h => h) (kq.at gp (by simp) fun h => h) (kq.at gx (by simp) fun h => h) (kq.at gk (by simp) fun h => h)
 obtain ⟨K2, e2, k2', k3⟩ := tcaught_run hE e1 k1 fun i h => by omega
 have k2 := k2'
 have gk2 := k3.at g1 (by simp) (by omega)
 have gf2 := k2.at gf (by simp) (by omega)
 have lf := Heap.lt_of_get gf2 (by simp)
 have gf3 : ∀ o, (K2.set (H.n + 5) o).get (H.n + 5) = o := fun o => Heap.get_set_self _ _ lf
 have gk3 : ∀ o, (K2.set (H.n + 5) o).get (H.n + 4) = _ := fun o => (Heap.get_set_ne _ _ o lf _ (by omega)).trans gk2
 rw [c_ttype hE, callB, bodyOf]
 simp [Try.f34, ← hHb, e2, gf2]
 refine region_plan (by exact pl_ttype) ?_
 have lk0 : H.n + 4 < K2.n := Heap.lt_of_get gk2 (by simp)
 have lk : ∀ o, H.n + 1 + 1 + 1 + 1 < (K2.set (H.n + 1 + 1 + 1 + 1 + 1) o).n := fun o => lk0
 have lf' : H.n + 1 + 1 + 1 + 1 + 1 < K2.n := lf
 have lf2 : ∀ o o', H.n + 1 + 1 + 1 + 1 + 1 < ((K2.set (H.n + 1 + 1 + 1 + 1 + 1) o).set (H.n + 1 + 1 + 1 + 1) o').n := fun _ _ => lf
 have s1 : ∀ o o', ((K2.set (H.n + 1 + 1 + 1 + 1 + 1) o).set (H.n + 1 + 1 + 1 + 1) o').get (H.n + 1 + 1 + 1 + 1) = o' := fun o o' => Heap.get_set_self _ _ (lk o)
 have s4 : ∀ o o', ((K2.set (H.n + 1 + 1 + 1 + 1 + 1) o).set (H.n + 1 + 1 + 1 + 1) o').get (H.n + 1 + 1 + 1 + 1 + 1) = o := fun o o' => (Heap.get_set_ne _ _ _ (lk o) _ (by omega)).trans (Heap.get_set_self _ _ lf')
 have s2 : ∀ o o' o'', (((K2.set (H.n + 1 + 1 + 1 + 1 + 1) o).set (H.n + 1 + 1 + 1 + 1) o').set (H.n + 1 + 1 + 1 + 1 + 1) o'').get (H.n + 1 + 1 + 1 + 1 + 1) = o'' := fun o o' o'' => Heap.get_set_self _ _ (lf2 o o')
 have s3 : ∀ o o' o'', (((K2.set (H.n + 1 + 1 + 1 + 1 + 1) o).set (H.n + 1 + 1 + 1 + 1) o').set (H.n + 1 + 1 + 1 + 1 + 1) o'').get (H.n + 1 + 1 + 1 + 1) = o' := fun o o' o'' => (Heap.get_set_ne _ _ _ (lf2 o o') _ (by omega)).trans (s1 o o')
 simp [drawF, gf3, gk3, s1, s2, s3, s4]
 exact ((Same.then_set (kb.then k2 fun i hi => .inr (by omega)) lf (.inr (by omega)) _).then_set (lk _) (.inr (by omega)) _).then_set (lf2 _ _) (.inr (by omega)) _
end
end Go.Vm.Typing
namespace Go.Vm.Typing
open Go Go.Proofs Go.Vm.Parse Go.Vm.Scope
attribute [local simp] repCells_succ writeAt rd_Fr toList_beq gpe gpn spe gse gsn
theorem plain0 : Plain noHooks := ⟨fun _ _ _ => rfl⟩
theorem E0_ok (N : Th) (W0 : World) : CallOK Try.prog N W0 noHooks.run := noHooks_ok
theorem src_of {α : Type} {b : ByteArray} {n : Nat} {g : Src ⊕ (Int × Int) → α} {v : α} (h : (parseP branP b.data.toList n).map g = some v) : ∃ res, parseP branP b.data.toList n = some res ∧ g res = v := by
 cases hp : parseP branP b.data.toList n with
 | none => rw [hp] at h; cases h
 | some res =>
  rw [hp] at h
  simp only [Option.map_some, Option.some.injEq] at h
  exact ⟨res, rfl, h⟩
def frontG : Src ⊕ (Int × Int) → Bool
 | .inl S => match rbuildB S with
  | .ok R => (exB R ⟨0, [], ByteArray.empty⟩ (.mk 3 0 0 0 ⟨#[103]⟩ [])).isNone
  | .error _ => false
 | .inr _ => false
theorem gives_fault {b : ByteArray} {c a : Int} (hb : decide (b.size ≤ 4096) = true) (h : (parseP branP b.data.toList 300).map faultP = some (c, a)) {H : Heap} {Q : Out → Heap → Prop} (hk : ∀ H', Same (fun _ => False) H H' → Q (.val (.agg ⟨[.int .i64 c, .int .i64 a]⟩)) H') :
  Gives ((run Try.prog noHooks).call 12 [.string b] H) Q := by
 obtain ⟨res, hx, hg⟩ := src_of h
 obtain ⟨H', e, k⟩ := fault_run plain0 (H := H) (of_decide_eq_true hb) hx
 rw [hg] at e
 exact ⟨_, _, e, hk H' k⟩
theorem gives_front {b : ByteArray} (hb : decide (b.size ≤ 4096) = true) (h : (parseP branP b.data.toList 300).map frontG = some true) {H : Heap} {Q : Out → Heap → Prop}
  (hk : ∀ (H' : Heap) y a1 a2 a3 b1 b2 b3 c1 c2 c3 d1 d2 d3 tid rtid (R : RT) (col : Nat → Nat) (T : Tab) nid pid rid v1 v2 v3 v4 v5, RTab H' col tid nid pid rid v1 v2 v3 v4 v5 T → Scope.Agree T R → TOK T → RGood R → exB R ⟨0, [], ByteArray.empty⟩ (.mk 3 0 0 0 ⟨#[103]⟩ []) = none →
   Q (.val (.tuple #[.agg ⟨[.string y, .slice a1 a2 a3, .slice b1 b2 b3, .slice c1 c2 c3, .slice d1 d2 d3]⟩, .pointer (some ⟨tid, 0, none⟩), .pointer (some ⟨rtid, 0, none⟩), .bool true])) H') :
  Gives ((run Try.prog noHooks).call 31 [.string b] H) Q := by
 obtain ⟨res, hx, hg⟩ := src_of h
 obtain ⟨o, H1, e1, k1, y, a1, a2, a3, b1, b2, b3, c1, c2, c3, d1, d2, d3, t, w, f, rfl, hf⟩ := front_run plain0 (H := H) (of_decide_eq_true hb) hx
 refine ⟨_, _, e1, ?_⟩
 cases res with
 | inr q => cases hg
 | inl S =>
  simp only [frontG] at hg
  simp only [] at hf
  cases hr : rbuildB S with
  | error q => rw [hr] at hg; cases hg
  | ok R =>
   rw [hr] at hf hg
   obtain ⟨rfl, tid, rtid, n, col, col', T, nid, pid, rid, v1, v2, v3, v4, v5, w1, w2, w3, w4, w5, w6, rfl, rfl, hT, hR, ha, hok, rok, hgd, hS, sok, hn⟩ := hf
   exact hk H1 _ _ _ _ _ _ _ _ _ _ _ _ _ _ _ R _ _ _ _ _ _ _ _ _ _ hT ha hok hgd (by simpa using hg)
theorem c_awake27 (args : List Value) (H : Heap) : (run Try.prog noHooks).call 9 args H = callB Try.prog noHooks Try.f9 args H := call_B Try.func9 rfl (by decide +kernel) rfl args H
theorem awake27 (H : Heap) : ∃ H', (run Try.prog noHooks).call 9 [] H = some (.val (.bool true), H') := by
 suffices key : Gives ((run Try.prog noHooks).call 9 [] H) fun o H' => o = .val (.bool true) by
  obtain ⟨o, H', e, rfl⟩ := key
  exact ⟨H', e⟩
 rw [c_awake27, callB, bodyOf]
 simp [Try.f9]
 refine gives_front (by decide +kernel) (by decide +kernel) ?_
 intro H1 y a1 a2 a3 b1 b2 b3 c1 c2 c3 d1 d2 d3 tid rtid R col T nid pid rid v1 v2 v3 v4 v5 hT ha hok hgd hx
 have kp : Same (fun _ => False) H1 (H1.push (.row true 0 1 [.string y, .slice a1 a2 a3, .slice b1 b2 b3, .slice c1 c2 c3, .slice d1 d2 d3])) := Same.push _ _ _
 have gs : (H1.push (.row true 0 1 [.string y, .slice a1 a2 a3, .slice b1 b2 b3, .slice c1 c2 c3, .slice d1 d2 d3])).get H1.n = _ := Heap.get_push_self H1 _
 obtain ⟨K, e2, k2⟩ := ttype_run plain0 ha hok hgd (hT.keep kp fun _ h => h.elim) (x := .mk 3 0 0 0 ⟨#[103]⟩ []) (S := fun _ => True) (xs := [.int .i64 3, .int .i64 0, .int .i64 0, .int .i64 0, .string ⟨#[103]⟩, .slice none 0 0]) (by simp [RE]) (by simp [WFx, WFxs, ExOK, most]) (p := 0) (y := y) (a1 := a1) (b1 := b1) (c1 := c1) (d1 := d1) (a2 := a2) (a3 := a3) (b2 := b2) (b3 := b3) (c2 := c2) (c3 := c3) (d2 := d2) (d3 := d3)
 rw [hx] at e2
 have hty : tyP (.mk 3 0 0 0 ⟨#[103]⟩ []) = 1 := by simp [tyP]
 simp only [kindP, fc, fa, hty] at e2
 simp [gs, e2]
 refine gives_fault (c := 0) (a := 0) (by decide +kernel) (by decide +kernel) fun _ _ => ?_
 simp [fault_eql]
 refine gives_fault (c := 21) (a := 29) (by decide +kernel) (by decide +kernel) fun _ _ => ?_
 simp [fault_eql]
 refine gives_fault (c := 22) (a := 27) (by decide +kernel) (by decide +kernel) fun _ _ => ?_
 simp [fault_eql]
 refine gives_fault (c := 23) (a := 48) (by decide +kernel) (by decide +kernel) fun _ _ => ?_
 simp [fault_eql]
 refine gives_fault (c := 18) (a := 17) (by decide +kernel) (by decide +kernel) fun _ _ => ?_
 simp [fault_eql]
 refine gives_fault (c := 18) (a := 17) (by decide +kernel) (by decide +kernel) fun _ _ => ?_
 simp [fault_eql]
theorem flat_bytes {k : Nat} {x : Value} {o : AObj} (fa : FlatArg (isInt .u8) 1 k x o) {H : Heap} (hH : H.get k = o) :
  x = .slice none 0 0 ∨ ∃ (src : List UInt8) (cap : Nat), x = .slice (some ⟨k, 0, none⟩) src.length cap ∧ BS H k 0 cap src := by
 obtain ⟨base, len, cap, cs, rfl, h1, h2, h3, h4, h5⟩ := fa
 rcases h5 with ⟨rfl, rfl, rfl, rfl⟩ | ⟨rfl, rfl⟩
 · exact .inl rfl
 · right
   have hb : ∀ cs : List Value, (∀ c ∈ cs, isInt .u8 c) → ∃ src : List UInt8, cs = src.map byteC := by
    intro cs
    induction cs with
    | nil => intro _; exact ⟨[], rfl⟩
    | cons c cs ih =>
     intro h
     obtain ⟨src, hs⟩ := ih fun c hc => h c (by simp [hc])
     obtain ⟨n, hn, h0, h255⟩ := h c (by simp)
     refine ⟨UInt8.ofNat n.toNat :: src, ?_⟩
     have e0 : IntKind.u8.min = 0 := rfl
     have e1 : IntKind.u8.max = 255 := rfl
     rw [e0] at h0
     rw [e1] at h255
     simp only [List.map_cons, byteC, ← hs, hn, List.cons.injEq, and_true]
     congr 1
     rw [UInt8.toNat_ofNat']
     omega
   obtain ⟨src, rfl⟩ := hb cs h4
   simp at h3
   refine ⟨src.take len, cap, ?_, false, 0, 0, _, hH, by simp; omega, by simp; omega, ?_⟩
   · simp only [List.length_take, show min len src.length = len by omega]
   · simp only [List.length_take, show min len src.length = len by omega, List.drop_zero, List.map_take]
theorem c_All27 (args : List Value) (H : Heap) : (run Try.prog noHooks).call 4 args H = callB Try.prog noHooks Try.f4 args H := call_B Try.func4 rfl (by decide +kernel) rfl args H
theorem conv_nil (H : Heap) : exConvert Try.prog 22 9 (.slice none 0 0) H = some (.string ⟨⟨[]⟩⟩, H) := by
 simp [exConvert, cellsOf, byteList]
theorem all_walk (x : Value) (o : AObj) (fa : FlatArg (isInt .u8) 1 0 x o) :
  Gives ((run Try.prog noHooks).call 4 [x] (Heap.empty.push o)) fun o _ => o = .val (.bool true) := by
 have fin : ∀ (src : List UInt8) (b : Option Addr) (cap : Nat), x = .slice b src.length cap → exConvert Try.prog 22 9 (.slice b src.length cap) (Heap.empty.push o) = some (.string ⟨⟨src⟩⟩, Heap.empty.push o) → Gives ((run Try.prog noHooks).call 4 [x] (Heap.empty.push o)) fun o _ => o = .val (.bool true) := by
  rintro src b cap rfl hcv
  rw [c_All27, callB, bodyOf]
  by_cases h1 : 4096 < src.length
  · obtain ⟨H2, e2⟩ := awake27 (Heap.empty.push o)
    simp [Try.f4, show (4096 : Int) < src.length by omega, e2]
  have h1' : ¬ (4096 : Int) < src.length := by omega
  obtain ⟨oA, HA, eA, rfl⟩ := alike27_run plain0 rfl hcv (by omega)
  obtain ⟨H2, e2⟩ := awake27 HA
  simp [Try.f4, h1', eA, e2]
 rcases flat_bytes fa (show (Heap.empty.push o).get 0 = o from Heap.get_push_self _ _) with rfl | ⟨src, cap, rfl, hb⟩
 · exact fin [] none 0 rfl (conv_nil _)
 · exact fin src _ cap rfl (conv_str hb _ rfl)
end Go.Vm.Typing
