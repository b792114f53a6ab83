/- What is proved: summaries of functions that touch no memory that was there, and the model's call of a function from the machine's run; no theorem of the program. What is proved: a slice that a law is handed, as an object of the machine that is only read; no theorem of the program. What is proved: rules by which a run is walked: what is asked behind a piece of code is asked of the piece; no theorem of the program. What is proved: what the machine's operations do with a list of whole numbers that grows; no theorem of the program. What is proved: rules that cut a walk in two; no theorem of the program. What is proved: the larger of two whole numbers. -/
import Derived.Test.YtdfikboiplmjnaaGreatDoorX2
import Derived.IntWalk
import Derived.Deep.Slices
import Derived.Deep.Strs
import Derived.ChangeArms
import Derived.WideShapes
set_option maxRecDepth 100000
set_option maxHeartbeats 4000000
set_option linter.unusedSimpArgs false
set_option linter.unusedVariables false
set_option linter.unusedSectionVars false
namespace Go.Vm
open Go.RowKit
variable {P:Program} {N:Th} {W0:World} {L:Lay} {H:Heap} {w:World}
def isTrueOut:Option (Out × Heap)→Bool
 | some (.val (.bool b),_)=>b
 | _=>false
theorem calls_of_run (hm:P.follows .mixedOrders=true) {E:Hooks} {f:FuncId} {fn:Func} {c:Code} (hf:P.funcs[f]? = some fn) (hb:fn.body=some c) {args args':List Value} {v:Value} {H':Heap}
  (h:(run P E).call f args H=some (.val v,H')) (hv:ground v=true) (hE:∀ N W0,CallOK P N W0 E.run) (S:Sim w.heap.size w L H w) (ha:LR L args args') :
  Calls P f ⟨args'⟩ w fun e w'=>e = .returned v∧Below w.heap.size w w':=by
 rcases run_sound hm hE f args H _ H' h L w args' S ha with ⟨fn',h1,h2,h3,h4⟩ | ⟨v',w',h1,h2⟩
 · refine h4.mono fun e w' hx => ?_
   obtain ⟨L',l1,l2,l3⟩:=hx
   refine ⟨?_,l2.below⟩
   cases e with
   | returned v' =>
    have l4:VR L' v v':=l3
    rw [l4.ground_eq hv]
   | _=>exact l3.elim
 · exfalso
   unfold callFunc at h1
   simp only [Sem.run_bind,run_program,Result.andThen_ok,hf] at h1
   by_cases hn : (fn.name == "runtime.NumGoroutine") = true
   · rw [if_pos hn] at h1
     cases h1
   · rw [if_neg hn,if_neg (by rw [hb];simp)] at h1
     cases h1
end Go.Vm
namespace Go.Vm
open Go.RowKit
variable {P:Program} {E:Hooks}
def dstsOf:Code→List Nat
 | .region _ ops _=>ops.toList.filterMap (·.dst)
 | .seq a b=>dstsOf a ++ dstsOf b
 | .cond _ a b=>dstsOf a ++ dstsOf b
 | .block _ c=>dstsOf c
 | .loop c=>dstsOf c
 | .scope c=>dstsOf c
 | _=>[]
def Kept (ds:List Nat) (t t':List Value):Prop:=t'.length=t.length∧∀ k,k ∉ ds→rd t' k=rd t k
theorem Kept.refl (ds:List Nat) (t:List Value):Kept ds t t:=⟨rfl,fun _ _=>rfl⟩
theorem Kept.trans {ds:List Nat} {t t' t'':List Value} (h:Kept ds t t') (k:Kept ds t' t''):Kept ds t t'':=⟨k.1.trans h.1,fun i hi=>(k.2 i hi).trans (h.2 i hi)⟩
theorem Kept.mono {ds ds':List Nat} {t t':List Value} (h:Kept ds t t') (hs:∀ k ∈ ds,k ∈ ds'):Kept ds' t t':=⟨h.1,fun i hi=>h.2 i fun h=>hi (hs i h)⟩
theorem rd_set_ne (t:List Value) (d k:Nat) (v:Value) (h:d ≠ k):rd (t.set d v) k=rd t k:=by
 unfold rd
 rw [List.getD_eq_getElem?_getD,List.getD_eq_getElem?_getD,List.getElem?_set_ne h]
theorem Kept.put {ds:List Nat} {t:List Value} (dst:Option Tmp) (v:Value) (h:∀ d,dst=some d→d ∈ ds):Kept ds t (putA t dst v):=by
 cases dst with
 | none=>exact .refl _ _
 | some d=>exact ⟨by simp [putA],fun k hk=>rd_set_ne t d k v fun e=>hk (e ▸ h d rfl)⟩
theorem kept_list {call:CallA} {ops:List Oper}:∀ {rest:List Oper} {s:St} {H:Heap} {e:ExA} {s':St} {H':Heap},exList P call ops rest s H=some (e,s',H')→Kept (rest.filterMap (·.dst)) s.t s'.t
 | [], s, H, e, s', H', h => by
  simp only [exList,Option.some.injEq,Prod.mk.injEq] at h
  obtain ⟨rfl,rfl,rfl⟩:=h
  exact .refl _ _
 | o :: rest, s, H, e, s', H', h => by
  have hsub:∀ k ∈ rest.filterMap (·.dst),k ∈ (o :: rest).filterMap (·.dst):=fun k hk=>by
   simp only [List.mem_filterMap,List.mem_cons] at hk ⊢
   obtain ⟨a,h1,h2⟩:=hk
   exact ⟨a,.inr h1,h2⟩
  have hd:∀ d,o.dst=some d→d ∈ (o :: rest).filterMap (·.dst):=fun d hd=>List.mem_filterMap.2 ⟨o,by simp,hd⟩
  simp only [exList] at h
  split at h
  · exact (Kept.put o.dst undef hd).trans ((kept_list h).mono hsub)
  · split at h
    · split at h
      · exact (Kept.put o.dst undef hd).trans ((kept_list h).mono hsub)
      · cases h
    · split at h
      · cases h
      · simp only [Option.some.injEq,Prod.mk.injEq] at h
        obtain ⟨rfl,rfl,rfl⟩:=h
        exact .refl _ _
      · exact (Kept.put o.dst _ hd).trans ((kept_list h).mono hsub)
theorem kept_text {call:CallA} {ops:List Oper}:∀ {rest:List Oper} {t:List Value} {H:Heap} {tr:List (List Value × Value)} {hs:List Heap} {t':List Value} {H2:Heap},exText P call ops rest t H=some (tr,hs,t',H2)→Kept (rest.filterMap (·.dst)) t t'
 | [], t, H, tr, hs, t', H2, h => by
  simp only [exText,Option.some.injEq,Prod.mk.injEq] at h
  obtain ⟨rfl,rfl,rfl,rfl⟩:=h
  exact .refl _ _
 | o :: rest, t, H, tr, hs, t', H2, h => by
  have hsub:∀ k ∈ rest.filterMap (·.dst),k ∈ (o :: rest).filterMap (·.dst):=fun k hk=>by
   simp only [List.mem_filterMap,List.mem_cons] at hk ⊢
   obtain ⟨a,h1,h2⟩:=hk
   exact ⟨a,.inr h1,h2⟩
  have hd:∀ d,o.dst=some d→d ∈ (o :: rest).filterMap (·.dst):=fun d hd=>List.mem_filterMap.2 ⟨o,by simp,hd⟩
  simp only [exText] at h
  split at h
  · cases h
  · rename_i v H' h1
    split at h
    · cases h
    · rename_i tr1 hs1 t1 H3 h2
      have:=kept_text h2
      split at h <;>
       (simp only [Option.some.injEq, Prod.mk.injEq] at h
        obtain ⟨_,_,rfl,rfl⟩:=h
        exact (Kept.put o.dst _ hd).trans (this.mono hsub))
theorem findLabel_dsts:∀ {c:Code} {l:Nat} {r:Code},findLabel c l=some r→∀ k ∈ dstsOf r,k ∈ dstsOf c:=by
 intro c
 induction c with
 | seq a b iha ihb =>
  intro l r h k hk
  simp only [findLabel] at h
  split at h
  · rename_i rest hr
    simp only [Option.some.injEq] at h
    subst h
    simp only [dstsOf,List.mem_append] at hk ⊢
    exact hk.imp (iha hr k) id
  · simp only [dstsOf,List.mem_append]
    exact .inr (ihb h k hk)
 | label l' =>
  intro l r h k hk
  simp only [findLabel] at h
  split at h
  · simp only [Option.some.injEq] at h;subst h;simp [dstsOf] at hk
  · cases h
 | _=>intro l r h;simp [findLabel] at h
structure KeptR (r:Runs):Prop where
 code:∀ {c s H e s' H'},r.code c s H=some (e,s',H')→Kept (dstsOf c) s.t s'.t
 scope:∀ {b c s H e s' H'},r.scope b c s H=some (e,s',H')→Kept (dstsOf b ++ dstsOf c) s.t s'.t
theorem kept_then {r:Runs} (hr:KeptR r) {c d:Code} {ds:List Nat} (h1:∀ k ∈ dstsOf c,k ∈ ds) (h2:∀ k ∈ dstsOf d,k ∈ ds) {s:St} {H:Heap} {e:ExA} {s':St} {H':Heap}
  (h:(match r.code c s H with | some (.normal,s',H')=>r.code d s' H' | x=>x)=some (e,s',H')):Kept ds s.t s'.t:=by
 obtain ⟨e1,s1,H1,k1,k2,k3⟩:=next_some h
 by_cases he:e1 = .normal
 · exact ((hr.code k1).mono h1).trans ((hr.code (k2 he)).mono h2)
 · obtain ⟨rfl,rfl,rfl⟩:=k3 he
   exact (hr.code k1).mono h1
theorem kept_freeT {call:CallA} {ops:List Oper}:∀ {rest:List Oper} {t:List Value} {r:Nat} {H:Heap} {st:List StepR} {t':List Value} {H2:Heap},exFreeT P call ops rest t r H=some (st,t',H2)→Kept (rest.filterMap (·.dst)) t t'
 | [], t, r, H, st, t', H2, h => by
  simp only [exFreeT,Option.some.injEq,Prod.mk.injEq] at h
  obtain ⟨rfl,rfl,rfl⟩:=h
  exact .refl _ _
 | o :: rest, t, r, H, st, t', H2, h => by
  have hsub:∀ k ∈ rest.filterMap (·.dst),k ∈ (o :: rest).filterMap (·.dst):=fun k hk=>by
   simp only [List.mem_filterMap,List.mem_cons] at hk ⊢
   obtain ⟨a,h1,h2⟩:=hk
   exact ⟨a,.inr h1,h2⟩
  have hd:∀ d,o.dst=some d→d ∈ (o :: rest).filterMap (·.dst):=fun d hd=>List.mem_filterMap.2 ⟨o,by simp,hd⟩
  simp only [exFreeT] at h
  split at h
  · cases h
  · split at h
    · cases h
    · rename_i h2
      simp only [Option.some.injEq,Prod.mk.injEq] at h
      obtain ⟨rfl,rfl,rfl⟩:=h
      exact (Kept.put o.dst _ hd).trans ((kept_freeT h2).mono hsub)
theorem kept_free {call:CallA} {ops:List Oper} {s:St} {H:Heap} {e:ExA} {s':St} {H':Heap} (h:exFree P call ops s H=some (e,s',H')):Kept (ops.filterMap (·.dst)) s.t s'.t:=by
 unfold exFree at h
 split at h
 · cases h
 · split at h
   · cases h
   · rename_i ht
     split at h
     · simp only [Option.some.injEq,Prod.mk.injEq] at h
       obtain ⟨rfl,rfl,rfl⟩:=h
       exact kept_freeT ht
     · cases h
theorem kept_noplan {call:CallA} {ops:List Oper} {s:St} {H:Heap} {e:ExA} {s':St} {H':Heap} (h:exNoPlan P call ops s H=some (e,s',H')):Kept (ops.filterMap (·.dst)) s.t s'.t:=by
 unfold exNoPlan at h
 split at h
 · rename_i q hq
   have hp:=late_ok hq
   unfold exLate2 at h
   split at h
   · split at h
     · cases h
     · rename_i ht
       split at h
       · unfold exLast at h
         split at h
         · split at h
           · simp only [Option.some.injEq,Prod.mk.injEq] at h
             obtain ⟨rfl,rfl,rfl⟩:=h
             obtain ⟨oa,g1,_,g3,_⟩:=hp.alloc
             refine ((kept_text ht).mono fun k hk => ?_).trans (Kept.put (some q.d) _ fun d hd => ?_)
             · simp only [List.mem_filterMap] at hk ⊢
               obtain ⟨o',h1,h2⟩:=hk
               obtain ⟨i,hi⟩:=List.getElem?_of_mem h1
               obtain ⟨_,o,h3,rfl⟩:=lateA_of hi
               refine ⟨o,List.mem_of_getElem? h3,?_⟩
               unfold blank at h2
               split at h2
               · cases h2
               · exact h2
             · simp only [Option.some.injEq] at hd
               subst hd
               exact List.mem_filterMap.2 ⟨oa,List.mem_of_getElem? g1,g3⟩
           · cases h
         · cases h
       · cases h
   · cases h
 · exact kept_free h
theorem kept_code {r:Runs} (hr:KeptR r) {c:Code} {s:St} {H:Heap} {e:ExA} {s':St} {H':Heap} (h:exCode P r (exDraw P r.call) c s H=some (e,s',H')):Kept (dstsOf c) s.t s'.t:=by
 have same:∀ {x:ExA},some (x,s,H)=some (e,s',H')→Kept (dstsOf c) s.t s'.t:=by
  intro x h
  simp only [Option.some.injEq,Prod.mk.injEq] at h
  obtain ⟨rfl,rfl,rfl⟩:=h
  exact .refl _ _
 cases c with
 | region id ops draw =>
  cases draw with
  | false=>exact kept_list h
  | true =>
   have h':exDraw P r.call ops.toList s H=some (e,s',H'):=h
   unfold exDraw at h'
   split at h'
   · exact kept_noplan h'
   · split at h'
     · cases h'
     · rename_i ht
       split at h'
       · simp only [Option.some.injEq,Prod.mk.injEq] at h'
         obtain ⟨rfl,rfl,rfl⟩:=h'
         exact kept_text ht
       · cases h'
 | seq a b=>exact kept_then hr (fun k hk=>by simp [dstsOf,hk]) (fun k hk=>by simp [dstsOf,hk]) h
 | cond x a b =>
  simp only [exCode] at h
  split at h
  · exact (hr.code h).mono fun k hk=>by simp [dstsOf,hk]
  · exact (hr.code h).mono fun k hk=>by simp [dstsOf,hk]
  · cases h
 | block id c =>
  simp only [exCode] at h
  cases hc:r.code c s H with
  | none=>rw [hc] at h;cases h
  | some p =>
   obtain ⟨e1,s1,H1⟩:=p
   rw [hc] at h
   have:=hr.code hc
   cases e1 with
   | exit i =>
    simp only [] at h
    cases hb:Nat.beq i id <;> (simp only [hb,Option.some.injEq,Prod.mk.injEq] at h;obtain ⟨rfl,rfl,rfl⟩:=h;exact this)
   | _=>simp only [Option.some.injEq,Prod.mk.injEq] at h;obtain ⟨rfl,rfl,rfl⟩:=h;exact this
 | loop c=>exact kept_then (c:=c) (d := .loop c) hr (fun k hk=>hk) (fun k hk=>hk) h
 | scope c=>exact (hr.scope h).mono fun k hk=>by simpa [dstsOf] using hk
 | skip=>exact same h
 | label l=>exact same h
 | exit i=>exact same h
 | goto l=>exact same h
 | ret=>exact same h
 | _=>simp [exCode] at h
theorem kept_scope {r:Runs} (hr:KeptR r) {b c:Code} {s:St} {H:Heap} {e:ExA} {s':St} {H':Heap} (h:exScope r b c s H=some (e,s',H')):Kept (dstsOf b ++ dstsOf c) s.t s'.t:=by
 unfold exScope at h
 cases hc:r.code c s H with
 | none=>rw [hc] at h;cases h
 | some p =>
  obtain ⟨e1,s1,H1⟩:=p
  rw [hc] at h
  have k1:=(hr.code hc).mono (ds':=dstsOf b ++ dstsOf c) fun k hk=>by simp [hk]
  cases e1 with
  | goto l =>
   simp only [] at h
   cases hf:findLabel b l with
   | none=>rw [hf] at h;simp only [Option.some.injEq,Prod.mk.injEq] at h;obtain ⟨rfl,rfl,rfl⟩:=h;exact k1
   | some rest =>
    rw [hf] at h
    refine k1.trans ((hr.scope h).mono fun k hk => ?_)
    simp only [List.mem_append] at hk ⊢
    exact .inl (hk.elim id (findLabel_dsts hf k))
  | _=>simp only [Option.some.injEq,Prod.mk.injEq] at h;obtain ⟨rfl,rfl,rfl⟩:=h;exact k1
theorem kept_runs:∀ n,KeptR (runs P E n)
 | 0=>⟨fun h=>by simp [runs] at h,fun h=>by simp [runs] at h⟩
 | n + 1=>⟨fun h=>kept_code (kept_runs n) h,fun h=>kept_scope (kept_runs n) h⟩
theorem kept_run {c:Code} {s:St} {H:Heap} {e:ExA} {s':St} {H':Heap} (h:(run P E).code c s H=some (e,s',H')):Kept (dstsOf c) s.t s'.t:=by
 obtain ⟨n,hn⟩:=lim_some h
 exact (kept_runs n).code hn
theorem Fr_nil (t:List Value):Fr t []=t:=by unfold Fr;rfl
end Go.Vm
namespace Go.Vm
open Go.RowKit
variable {P:Program} {E:Hooks}
def Ends (r:ResA) (Q:ExA→St→Heap→Prop):Prop:=∃ e s H,r=some (e,s,H)∧Q e s H
@[simp] theorem Ends_some (e:ExA) (s:St) (H:Heap) (Q:ExA→St→Heap→Prop):Ends (some (e,s,H)) Q ↔ Q e s H :=
 ⟨fun ⟨e',s',H',h,q⟩=>by simp only [Option.some.injEq,Prod.mk.injEq] at h;obtain ⟨rfl,rfl,rfl⟩:=h;exact q,fun q=>⟨e,s,H,rfl,q⟩⟩
theorem Ends.mono {r:ResA} {Q Q':ExA→St→Heap→Prop} (h:Ends r Q) (k:∀ e s H,Q e s H→Q' e s H):Ends r Q':=let ⟨e,s,H,h1,h2⟩:=h;⟨e,s,H,h1,k _ _ _ h2⟩
def Gives (r:Option (Out × Heap)) (Q:Out→Heap→Prop):Prop:=∃ o H,r=some (o,H)∧Q o H
@[simp] theorem Gives_some (o:Out) (H:Heap) (Q:Out→Heap→Prop):Gives (some (o,H)) Q ↔ Q o H :=
 ⟨fun ⟨o',H',h,q⟩=>by simp only [Option.some.injEq,Prod.mk.injEq] at h;obtain ⟨rfl,rfl⟩:=h;exact q,fun q=>⟨o,H,rfl,q⟩⟩
theorem Gives.mono {r:Option (Out × Heap)} {Q Q':Out→Heap→Prop} (h:Gives r Q) (k:∀ o H,Q o H→Q' o H):Gives r Q':=let ⟨o,H,h1,h2⟩:=h;⟨o,H,h1,k _ _ h2⟩
theorem loop_ends {c:Code} {Q:ExA→St→Heap→Prop} (I:Nat→List Value→Heap→Prop)
  (step:∀ m t H,I m t H→Ends ((run P E).code c ⟨t,[]⟩ H) fun e s H'=>(e = .normal∧s.ds=[]∧∃ m',m' < m∧I m' s.t H')∨(e ≠ .normal∧Q e s H')) :
  ∀ m t H,I m t H→Ends ((run P E).code (.loop c) ⟨t,[]⟩ H) Q:=by
 intro m
 induction m using Nat.strongRecOn with
 | _ m ih =>
  intro t H h
  obtain ⟨e,s,H',h1,h2⟩:=step m t H h
  rw [code_loop,h1]
  rcases h2 with ⟨rfl,hd,m',hlt,hI⟩ | ⟨hn,hq⟩
  · obtain ⟨t',ds'⟩:=s
    simp only at hd
    subst hd
    rw [thenA_normal]
    exact ih m' hlt t' H' hI
  · cases e with
    | normal=>exact absurd rfl hn
    | exit i=>rw [thenA_exit];exact ⟨_,_,_,rfl,hq⟩
    | goto i=>rw [thenA_goto];exact ⟨_,_,_,rfl,hq⟩
    | ret=>rw [thenA_ret];exact ⟨_,_,_,rfl,hq⟩
    | pan v=>rw [thenA_pan];exact ⟨_,_,_,rfl,hq⟩
end Go.Vm
namespace Go.Vm
theorem wrap64 (x:Int) (h1 : -9223372036854775808 ≤ x) (h2:x ≤ 9223372036854775807):IntKind.i64.wrap x=x:=Go.IntWalk.i64_in x ⟨h1,h2⟩
theorem Gives.true {r:Option (Out × Heap)} (h:Gives r fun o _=>o = .val (.bool true)):∃ H',r=some (.val (.bool true),H'):=by
 obtain ⟨o,H,h1,rfl⟩:=h
 exact ⟨H,h1⟩
structure Same (X:Nat→Prop) (H H':Heap):Prop where
 n:H.n ≤ H'.n
 get:∀ i,i < H.n→¬ X i→H'.get i=H.get i
theorem Same.refl (X:Nat→Prop) (H:Heap):Same X H H:=⟨Nat.le_refl _,fun _ _ _=>rfl⟩
theorem Same.trans {X:Nat→Prop} {A B C:Heap} (h:Same X A B) (k:Same X B C):Same X A C:=⟨Nat.le_trans h.n k.n,fun i hi hx=>(k.get i (Nat.lt_of_lt_of_le hi h.n) hx).trans (h.get i hi hx)⟩
theorem Same.mono {X Y:Nat→Prop} {A B:Heap} (h:Same X A B) (hxy:∀ i,X i→Y i):Same Y A B:=⟨h.n,fun i hi hy=>h.get i hi fun hx=>hy (hxy i hx)⟩
theorem Same.push (X:Nat→Prop) (H:Heap) (o:AObj):Same X H (H.push o):=⟨Nat.le_succ _,fun i hi _=>by rw [Heap.get_push,if_neg (Nat.ne_of_lt hi)]⟩
theorem Same.set {X:Nat→Prop} (H:Heap) {i:Nat} (hi:i < H.n) (hx:X i) (o:AObj):Same X H (H.set i o):=⟨Nat.le_refl _,fun j _ hj=>by rw [Heap.get_set H i o hi,if_neg (fun (e:j=i)=>hj (by rw [e];exact hx))]⟩
theorem Same.at {X:Nat→Prop} {H H':Heap} (h:Same X H H') {i:Nat} {o:AObj} (hg:H.get i=o) (hd:o ≠ .dead) (hx:¬ X i):H'.get i=o:=by
 rw [h.get i (Heap.lt_of_get hg hd) hx];exact hg
theorem Tr.set_set (o o':AObj):∀ (f:Nat) (t:Tr) (i:Nat),Tr.set f (Tr.set f t i o) i o'=Tr.set f t i o':=by
 intro f
 induction f with
 | zero=>intro t i;rfl
 | succ f ih =>
  intro t i
  cases t with
  | leaf =>
   simp only [Tr.set]
   cases hi:Nat.beq i 0 with
   | true=>simp only [Tr.set,hi]
   | false =>
    simp only []
    cases hp:Nat.beq (i % 2) 1 with
    | true=>simp only [Tr.set,hi,hp,ih]
    | false=>simp only [Tr.set,hi,hp,ih]
  | node p l r =>
   simp only [Tr.set]
   cases hi:Nat.beq i 0 with
   | true=>simp only [Tr.set,hi]
   | false =>
    simp only []
    cases hp:Nat.beq (i % 2) 1 with
    | true=>simp only [Tr.set,hi,hp,ih]
    | false=>simp only [Tr.set,hi,hp,ih]
@[simp] theorem Heap.push_set (H:Heap) (o o':AObj):(H.push o).set H.n o'=H.push o':=by
 unfold Heap.push Heap.set
 simp only [Tr.set_set]
@[simp] theorem Heap.get_push_self (H:Heap) (o:AObj):(H.push o).get H.n=o:=by rw [Heap.get_push,if_pos rfl]
theorem Heap.get_push_lt (H:Heap) (o:AObj) {i:Nat} (h:i < H.n):(H.push o).get i=H.get i:=by rw [Heap.get_push,if_neg (Nat.ne_of_lt h)]
end Go.Vm
namespace Go.Vm
open Go.RowKit
variable {P:Program} {N:Th} {W0:World} {L:Lay} {H:Heap} {w:World}
theorem Sim.lent (S:Sim N W0 L H w) {b o:Nat} (hb:b < N.n) {cs:List Value} (hc:∀ j (h:j < cs.length),w.cell? ⟨b,o + j,none⟩=some cs[j]) (hg:groundL cs=true) (h1:One cs) :
  Sim N W0 (upd L H.n (b,o,0)) (H.push (.row false 0 0 cs)) w:=by
 refine S.put _ (b,o,0) ⟨fun k hk=>⟨cs[k],hc k hk,(groundL_LR _ cs hg).2 k hk hk⟩,h1,fun _=>rfl,fun _=>hb,fun h=>by cases h⟩ ?_
 intro j b' k h
 exact h.elim
section
variable {D:Type} {enc:TypeId × Value→D} {base:Nat} {spare:Nat→Bool} {held:Bool}
theorem okWide_spot {t e:TypeId} (ht:P.underlying t=some (.slice e)) {a:Addr} {len cap:Nat} (h:Value.okWide P w .any base t (.slice (some a) len cap)):a.spot=none∧a.block < w.heap.size:=by
 unfold Value.okWide at h
 rw [ht] at h
 simp only at h
 unfold Cell.okWide at h
 rw [ht] at h
 simp only at h
 unfold Cell.ok at h
 rw [ht] at h
 simp only at h
 obtain ⟨_,_,_,h2,row,cells,h3,_⟩:=h
 refine ⟨h2,?_⟩
 unfold World.shape? at h3
 cases hh:w.heap[a.block]? with
 | none=>rw [hh] at h3;cases h3
 | some o=>exact (Array.getElem?_eq_some_iff.1 hh).1
theorem open_cells {b0:Nat} {t e:TypeId} {p:Value→Prop} {v:Value} {d:DataW D} {ps:List MemPlace} (ht:P.underlying t=some (.slice e)) (hpos:0 < P.cellsOf e)
  (he:∀ fuel cs x,DataW.trod enc P w base (fun _=>true) held fuel e cs=some x→∀ c ∈ cs,p c)
  (hval:Value.okWide P w .any b0 t v) (hd:DataW.Trod enc P w base (fun _=>true) held t v d ps) :
  v = .slice none 0 0∨∃ (b o len cap:Nat),v = .slice (some ⟨b,o,none⟩) len cap∧b < w.heap.size∧len ≤ cap∧cap ≤ maxLen ∧
   ∀ j,j < cap * P.cellsOf e→∃ c,w.cell? ⟨b,o + j,none⟩=some c∧p c:=by
 obtain ⟨a,len,cap,rfl⟩:=WideShapes.okWide_slice ht hval
 obtain ⟨fuel,hf⟩:=hd
 have hcells:(Value.slice a len cap).cells.toList=[.slice a len cap]:=rfl
 rw [hcells] at hf
 rcases Go.Deep.open_slice ht hf with ⟨h0,_⟩ | ⟨a',len',cap',m,n,Df,Pl,h0,hb,hl,hm,hmm,_,hx⟩
 · simp only [List.cons.injEq,and_true] at h0
   exact .inl h0
 · simp only [List.cons.injEq,Value.slice.injEq,and_true] at h0
   obtain ⟨rfl,rfl,rfl⟩:=h0
   obtain ⟨hsp,hlt⟩:=okWide_spot ht hval
   obtain ⟨b,o,sp⟩:=a'
   simp only at hsp hlt
   subst hsp
   refine .inr ⟨b,o,len,cap,rfl,hlt,hl,hm,fun j hj => ?_⟩
   simp only [if_true] at hmm
   subst hmm
   have hi:j / P.cellsOf e < m:=Nat.div_lt_of_lt_mul (by rwa [Nat.mul_comm] at hj)
   obtain ⟨cs',h1,h2⟩:=hx (j / P.cellsOf e) hi
   obtain ⟨_,h3,h4⟩:=World.cells?_some h1
   have hr:j % P.cellsOf e < P.cellsOf e:=Nat.mod_lt _ hpos
   have h5:=h4 (j % P.cellsOf e) hr
   have e1:((⟨b,o,none⟩:Addr).add (j / P.cellsOf e * P.cellsOf e)).add (j % P.cellsOf e)=⟨b,o + j,none⟩:=by
    rw [Addr.add_mid,Addr.add_mid]
    have:=Nat.div_add_mod j (P.cellsOf e)
    rw [Nat.mul_comm] at this
    congr 1
    omega
   rw [e1,List.getElem?_eq_getElem (by omega)] at h5
   exact ⟨_,h5,he _ _ _ h2 _ (List.getElem_mem _)⟩
theorem cells_list {p:Value→Prop} {b o n:Nat} (h:∀ j,j < n→∃ c,w.cell? ⟨b,o + j,none⟩=some c∧p c):∃ cs:List Value,cs.length=n∧(∀ j (h:j < cs.length),w.cell? ⟨b,o + j,none⟩=some cs[j])∧∀ c ∈ cs,p c:=by
 induction n with
 | zero=>exact ⟨[],rfl,fun j h=>by simp at h,fun c h=>by simp at h⟩
 | succ n ih =>
  obtain ⟨cs,h1,h2,h3⟩:=ih fun j hj=>h j (by omega)
  obtain ⟨c,h4,h5⟩:=h n (by omega)
  refine ⟨cs ++ [c],by simp [h1],fun j hj => ?_,fun c' hc => ?_⟩
  · simp only [List.length_append,List.length_cons,List.length_nil] at hj
    by_cases e:j < cs.length
    · rw [List.getElem_append_left e];exact h2 j e
    · have:j=n:=by omega
      subst this
      rw [List.getElem_append_right (by omega)]
      simpa using h4
  · rcases List.mem_append.1 hc with hc | hc
    · exact h3 c' hc
    · simp only [List.mem_singleton] at hc;subst hc;exact h5
def isInt (k:IntKind) (c:Value):Prop:=∃ n,c = .int k n∧k.min ≤ n∧n ≤ k.max
theorem wf_int {k:IntKind} {n:Int} (h:(Lit.int k n).wf=true):k.min ≤ n∧n ≤ k.max:=by
 simpa [Lit.wf] using h
theorem trod_isInt {e:TypeId} {k:IntKind} (he:P.underlying e=some (.int k)):∀ fuel cs x,DataW.trod enc P w base spare held fuel e cs=some x→∀ c ∈ cs,isInt k c:=by
 intro fuel cs x h c hc
 obtain ⟨n,rfl,_,hw⟩:=DataW.trod_int he h
 simp only [List.mem_singleton] at hc
 exact ⟨n,hc,wf_int hw⟩
end
theorem ints_ground {k:IntKind}:∀ {cs:List Value},(∀ c ∈ cs,isInt k c)→groundL cs=true∧One cs
 | [],_=>⟨rfl,One.nil⟩
 | c :: cs, h => by
  obtain ⟨n,rfl,_⟩:=h c (by simp)
  have ih:=ints_ground (cs:=cs) fun c hc=>h c (List.mem_cons_of_mem _ hc)
  exact ⟨by simp only [groundL,ground_int,ih.1,Bool.and_self],fun i hi=>by cases i with | zero=>rfl | succ i=>exact ih.2 i (by simpa using hi)⟩
end Go.Vm
namespace Go.Vm
open Go.RowKit
variable {P:Program} {N:Th} {W0:World} {L:Lay} {H:Heap} {w:World}
theorem Sim.none (S:Sim N W0 L H w):Sim N W0 L (H.push .dead) w where
 calm:=S.calm
 below:=S.below
 base:=S.base
 ghost:=S.ghost
 void:=fun id h=>⟨by have:=(S.void id h).1;simp;omega,(S.void id h).2⟩
 fresh:=fun id h=>S.fresh id (by simp at h;omega)
 obj:=fun id=>by
  rw [Heap.get_push]
  by_cases c:id=H.n
  · rw [if_pos c];trivial
  · rw [if_neg c];exact S.obj id
 apart:=fun i j b k hij h1 h2=>by
  rw [Heap.get_push] at h1 h2
  by_cases c:i=H.n
  · rw [if_pos c] at h1;exact h1.elim
  · by_cases c2:j=H.n
    · rw [if_pos c2] at h2;exact h2.elim
    · rw [if_neg c] at h1;rw [if_neg c2] at h2
      exact S.apart i j b k hij h1 h2
def FlatArg (p:Value→Prop) (n k:Nat) (x:Value) (o:AObj):Prop :=
 ∃ base len cap cs,x = .slice base len cap∧len ≤ cap∧cap ≤ maxLen∧cs.length=cap * n∧(∀ c ∈ cs,p c) ∧
  ((base=Option.none∧o = .dead∧len=0∧cap=0)∨(base=some ⟨k,0,Option.none⟩∧o = .row false 0 0 cs))
section
variable {D:Type} {enc:TypeId × Value→D} {base:Nat}
theorem Sim.flat {b0:Nat} (S:Sim w.heap.size w L H w) {t e:TypeId} {p:Value→Prop} {v:Value} {d:DataW D} {ps:List MemPlace} (ht:P.underlying t=some (.slice e)) (hpos:0 < P.cellsOf e)
  (he:∀ fuel cs x,DataW.trod enc P w base (fun _=>true) true fuel e cs=some x→∀ c ∈ cs,p c) (hg:∀ cs,(∀ c ∈ cs,p c)→groundL cs=true∧One cs)
  (hval:Value.okWide P w .any b0 t v) (hd:DataW.Trod enc P w base (fun _=>true) true t v d ps) :
  ∃ x o L',FlatArg p (P.cellsOf e) H.n x o∧Sim w.heap.size w L' (H.push o) w∧L.le L'∧VR L' x v:=by
 rcases open_cells ht hpos he hval hd with rfl | ⟨b,o,len,cap,rfl,hb,h1,h2,h3⟩
 · exact ⟨.slice Option.none 0 0,.dead,L,⟨_,_,_,[],rfl,Nat.le_refl _,Nat.zero_le _,by simp,(fun c h=>by cases h),.inl ⟨rfl,rfl,rfl,rfl⟩⟩,S.none,Lay.le_refl L,.snil _ _⟩
 · obtain ⟨cs,h4,h5,h6⟩:=cells_list h3
   refine ⟨.slice (some ⟨H.n,0,Option.none⟩) len cap,.row false 0 0 cs,upd L H.n (b,o,0),⟨_,_,_,cs,rfl,h1,h2,h4,h6,.inr ⟨rfl,rfl⟩⟩,S.lent hb h5 (hg cs h6).1 (hg cs h6).2,upd_le (S.fresh _ (Nat.le_refl _)),?_⟩
   have:=VR.slice (L:=upd L H.n (b,o,0)) H.n 0 len cap b o 0 (upd_same _ _ _)
   simpa using this
end
theorem LR.nil':LR L [] []:=⟨rfl,fun i h=>by simp at h⟩
theorem LR.snoc {x x':List Value} {v v':Value} (h:LR L x x') (k:VR L v v'):LR L (x ++ [v]) (x' ++ [v']):=by
 refine ⟨by simp [h.1],fun i h1 h2 => ?_⟩
 by_cases c:i < x.length
 · rw [List.getElem_append_left c,List.getElem_append_left (by rw [← h.1];exact c)]
   exact h.2 i c _
 · have e:i=x.length:=by simp at h1;omega
   subst e
   rw [List.getElem_append_right (Nat.le_refl _),List.getElem_append_right (by rw [h.1];exact Nat.le_refl _)]
   simpa [h.1] using k
theorem LR.mono' {L':Lay} {x x':List Value} (hl:L.le L') (h:LR L x x'):LR L' x x':=⟨h.1,fun i h1 h2=>(h.2 i h1 h2).mono hl⟩
theorem VR.ground (v:Value) (h:ground v=true):VR L v v:=ground_VR L v h
theorem calls_true (hm:P.follows .mixedOrders=true) {E:Hooks} {f:FuncId} {fn:Func} {c:Code} (hf:P.funcs[f]? = some fn) (hb:fn.body=some c) {args args':List Value}
  (h:Gives ((run P E).call f args H) fun o _=>o = .val (.bool true)) (hE:∀ N W0,CallOK P N W0 E.run) (S:Sim w.heap.size w L H w) (ha:LR L args args') :
  Calls P f ⟨args'⟩ w fun e w'=>e = .returned (.bool true)∧Below w.heap.size w w':=by
 obtain ⟨o,H',h1,rfl⟩:=h
 exact calls_of_run hm hf hb h1 rfl hE S ha
end Go.Vm
namespace Go.Vm
open Go.RowKit
variable {P:Program} {E:Hooks}
abbrev QA:=ExA→St→Heap→Prop
def bindQ (k:St→Heap→ResA) (Q:QA) (_:Held k):QA:=fun e s H=>match e with
 | .normal=>Ends (k s H) Q
 | e=>Q e s H
def blockQ (id:Nat) (Q:QA):QA:=fun e s H=>match e with
 | .exit i=>if i=id then Q .normal s H else Q (.exit i) s H
 | e=>Q e s H
def stepQ (s:St) (k:Value→Heap→ResA) (Q:QA) (_:Held k):Out→Heap→Prop:=fun o H=>match o with
 | .val v=>Ends (k v H) Q
 | .pan v=>Q (.pan v) s H
def resQ (Q:Out→Heap→Prop) (H:Heap):Option (List Value)→Prop
 | some l=>Q (.val (tupleOf l)) H
 | none=>False
def bodyQ (P:Program) (E:Hooks) (r:Runs) (rs:List ResultVar) (Q:Out→Heap→Prop):QA:=fun e s H =>
 match catAt P E e s.ds with
 | some (q, as, v) => match catRun P r q as v H with
  | some H2=>resQ Q H2 (exResults P rs s.t H2)
  | none=>False
 | none => match exLeave P E r s.ds H with
  | some H2 => match e with
   | .pan v=>recs P s.ds=false∧Q (.pan v) H2
   | .normal | .ret=>resQ Q H2 (exResults P rs s.t H2)
   | _=>False
  | none=>False
@[simp] theorem bindQ_normal (k:St→Heap→ResA) (Q:QA) (h:Held k) (s:St) (H:Heap):bindQ k Q h .normal s H=Ends (k s H) Q:=id rfl
@[simp] theorem bindQ_ret (k:St→Heap→ResA) (Q:QA) (h:Held k) (s:St) (H:Heap):bindQ k Q h .ret s H=Q .ret s H:=id rfl
@[simp] theorem bindQ_pan (k:St→Heap→ResA) (Q:QA) (h:Held k) (v:Value) (s:St) (H:Heap):bindQ k Q h (.pan v) s H=Q (.pan v) s H:=id rfl
@[simp] theorem blockQ_exit (id:Nat) (Q:QA) (i:Nat) (s:St) (H:Heap):blockQ id Q (.exit i) s H=if i=id then Q .normal s H else Q (.exit i) s H:=_root_.id rfl
@[simp] theorem blockQ_normal (id:Nat) (Q:QA) (s:St) (H:Heap):blockQ id Q .normal s H=Q .normal s H:=_root_.id rfl
@[simp] theorem blockQ_ret (id:Nat) (Q:QA) (s:St) (H:Heap):blockQ id Q .ret s H=Q .ret s H:=_root_.id rfl
@[simp] theorem blockQ_pan (id:Nat) (Q:QA) (v:Value) (s:St) (H:Heap):blockQ id Q (.pan v) s H=Q (.pan v) s H:=_root_.id rfl
@[simp] theorem stepQ_val (s:St) (k:Value→Heap→ResA) (Q:QA) (h:Held k) (v:Value) (H:Heap):stepQ s k Q h (.val v) H=Ends (k v H) Q:=id rfl
@[simp] theorem stepQ_pan (s:St) (k:Value→Heap→ResA) (Q:QA) (h:Held k) (v:Value) (H:Heap):stepQ s k Q h (.pan v) H=Q (.pan v) s H:=id rfl
@[simp] theorem resQ_some (Q:Out→Heap→Prop) (H:Heap) (l:List Value):resQ Q H (some l)=Q (.val (tupleOf l)) H:=id rfl
@[simp] theorem bodyQ_ret (r:Runs) (rs:List ResultVar) (Q:Out→Heap→Prop) (t:List Value) (H:Heap):bodyQ P E r rs Q .ret ⟨t,[]⟩ H=resQ Q H (exResults P rs t H):=id rfl
@[simp] theorem bodyQ_normal (r:Runs) (rs:List ResultVar) (Q:Out→Heap→Prop) (t:List Value) (H:Heap):bodyQ P E r rs Q .normal ⟨t,[]⟩ H=resQ Q H (exResults P rs t H):=id rfl
@[simp] theorem bodyQ_pan (r:Runs) (rs:List ResultVar) (Q:Out→Heap→Prop) (v:Value) (t:List Value) (H:Heap):bodyQ P E r rs Q (.pan v) ⟨t,[]⟩ H=Q (.pan v) H:=by
 show (recs P []=false∧Q (.pan v) H)=Q (.pan v) H
 exact propext ⟨fun h=>h.2,fun h=>⟨rfl,h⟩⟩
theorem Ends_none {Q:QA}:¬ Ends none Q:=fun ⟨_,_,_,h,_⟩=>by cases h
theorem Gives_none {Q:Out→Heap→Prop}:¬ Gives none Q:=fun ⟨_,_,h,_⟩=>by cases h
@[simp] theorem ends_then (r:ResA) (k:St→Heap→ResA) (h:Held k) (Q:QA):Ends (thenA r k h) Q=Ends r (bindQ k Q h):=by
 refine propext ?_
 cases r with
 | none=>exact ⟨fun h=>(Ends_none h).elim,fun h=>(Ends_none h).elim⟩
 | some p =>
  obtain ⟨e,s,H⟩:=p
  rw [Ends_some]
  cases e with
  | normal=>exact Iff.rfl
  | _=>exact Ends_some _ _ _ _
@[simp] theorem ends_block (id:Nat) (r:ResA) (Q:QA):Ends (blockA id r) Q=Ends r (blockQ id Q):=by
 refine propext ?_
 cases r with
 | none=>exact ⟨fun h=>(Ends_none h).elim,fun h=>(Ends_none h).elim⟩
 | some p =>
  obtain ⟨e,s,H⟩:=p
  rw [Ends_some]
  cases e with
  | exit i =>
   rw [blockQ_exit,blockA_exit]
   split <;> exact Ends_some _ _ _ _
  | _=>exact Ends_some _ _ _ _
@[simp] theorem ends_step (r:Option (Out × Heap)) (s:St) (k:Value→Heap→ResA) (h:Held k) (Q:QA):Ends (stepO r s k h) Q=Gives r (stepQ s k Q h):=by
 refine propext ?_
 cases r with
 | none=>exact ⟨fun h=>(Ends_none h).elim,fun h=>(Gives_none h).elim⟩
 | some p =>
  obtain ⟨o,H⟩:=p
  rw [Gives_some]
  cases o with
  | val v=>exact Iff.rfl
  | pan v=>exact Ends_some _ _ _ _
@[simp] theorem gives_body (r:Runs) (rs:List ResultVar) (x:ResA) (Q:Out→Heap→Prop):Gives (bodyA P E r rs x) Q=Ends x (bodyQ P E r rs Q):=by
 refine propext ?_
 cases x with
 | none=>exact ⟨fun h=>(Gives_none h).elim,fun h=>(Ends_none h).elim⟩
 | some p =>
  obtain ⟨e,s,H⟩:=p
  rw [Ends_some]
  unfold bodyA bodyQ
  simp only []
  cases catAt P E e s.ds with
  | some w =>
   obtain ⟨q,as,v⟩:=w
   simp only []
   cases catRun P r q as v H with
   | none=>exact ⟨fun h=>(Gives_none h).elim,fun h=>h.elim⟩
   | some H2 =>
    simp only []
    cases exResults P rs s.t H2 with
    | none=>exact ⟨fun h=>(Gives_none h).elim,fun h=>h.elim⟩
    | some l=>exact Gives_some _ _ _
  | none =>
  simp only []
  cases exLeave P E r s.ds H with
  | none=>exact ⟨fun h=>(Gives_none h).elim,fun h=>h.elim⟩
  | some H2 =>
   simp only []
   cases e with
   | pan v =>
    simp only []
    cases recs P s.ds with
    | true=>exact ⟨fun h=>(Gives_none h).elim,fun h=>by cases h.1⟩
    | false=>exact ⟨fun h=>⟨rfl,by rwa [Gives_some] at h⟩,fun h=>by rw [Gives_some];exact h.2⟩
   | normal => cases exResults P rs s.t H2 with
    | none=>exact ⟨fun h=>(Gives_none h).elim,fun h=>h.elim⟩
    | some l=>exact Gives_some _ _ _
   | ret => cases exResults P rs s.t H2 with
    | none=>exact ⟨fun h=>(Gives_none h).elim,fun h=>h.elim⟩
    | some l=>exact Gives_some _ _ _
   | _=>exact ⟨fun h=>(Gives_none h).elim,fun h=>h.elim⟩
theorem ends_cond {b:Bool} {x y:ResA} {hx:Held x} {hy:Held y} {Q:QA} (h1:b=true→Ends x Q) (h2:b=false→Ends y Q):Ends (condA (some (.bool b)) x y hx hy) Q:=by
 cases b
 · exact h2 rfl
 · exact h1 rfl
def AllRd (t t0:List Value):List Nat→Prop
 | []=>True
 | k :: ks=>rd t k=rd t0 k∧AllRd t t0 ks
@[simp] theorem AllRd_nil (t t0:List Value):AllRd t t0 []=True:=id rfl
@[simp] theorem AllRd_cons (t t0:List Value) (k:Nat) (ks:List Nat):AllRd t t0 (k :: ks)=(rd t k=rd t0 k∧AllRd t t0 ks):=id rfl
theorem Kept.all {ds:List Nat} {t0 t:List Value} (h:Kept ds t0 t):∀ (ks:List Nat),(ks.all fun k => !ds.elem k)=true→AllRd t t0 ks
 | [],_=>trivial
 | k :: ks, hk => by
  simp only [List.all_cons,Bool.and_eq_true,Bool.not_eq_true'] at hk
  exact ⟨h.2 k (by intro hm;have:=List.elem_iff.2 hm;rw [hk.1] at this;cases this),h.all ks hk.2⟩
def roundQ (ds:List Nat) (t0:List Value) (I:Nat→List Value→Heap→Prop) (m:Nat) (Q:QA):QA:=fun e s H=>match e with
 | .normal=>s.ds=[]∧∃ m',m' < m∧I m' s.t H
 | e=>Q e s H
section
variable (ds:List Nat) (t0:List Value) (I:Nat→List Value→Heap→Prop) (m:Nat) (Q:QA)
@[simp] theorem roundQ_normal (s:St) (H:Heap):roundQ ds t0 I m Q .normal s H=(s.ds=[]∧∃ m',m' < m∧I m' s.t H):=id rfl
@[simp] theorem roundQ_exit (i:Nat) (s:St) (H:Heap):roundQ ds t0 I m Q (.exit i) s H=Q (.exit i) s H:=id rfl
@[simp] theorem roundQ_goto (i:Nat) (s:St) (H:Heap):roundQ ds t0 I m Q (.goto i) s H=Q (.goto i) s H:=id rfl
@[simp] theorem roundQ_ret (s:St) (H:Heap):roundQ ds t0 I m Q .ret s H=Q .ret s H:=id rfl
@[simp] theorem roundQ_pan (v:Value) (s:St) (H:Heap):roundQ ds t0 I m Q (.pan v) s H=Q (.pan v) s H:=id rfl
end
theorem loop_wp {c:Code} {t0:List Value} {H0:Heap} {Q:QA} (I:Nat→List Value→Heap→Prop) (m0:Nat) (h0:I m0 t0 H0)
  (step:∀ m t H,Kept (dstsOf c) t0 t→I m t H→Ends ((run P E).code c ⟨Fr t [],[]⟩ H) (roundQ (dstsOf c) t0 I m Q)):Ends ((run P E).code (.loop c) ⟨t0,[]⟩ H0) Q:=by
 refine loop_ends (fun m t H=>Kept (dstsOf c) t0 t∧I m t H) ?_ m0 t0 H0 ⟨Kept.refl _ _,h0⟩
 rintro m t H ⟨hk,hI⟩
 obtain ⟨e,s,H',h1,h2⟩:=step m t H hk hI
 rw [Fr_nil] at h1
 refine ⟨e,s,H',h1,?_⟩
 cases e with
 | normal=>rw [roundQ_normal] at h2;obtain ⟨h3,m',h4,h5⟩:=h2;exact .inl ⟨rfl,h3,m',h4,hk.trans (kept_run h1),h5⟩
 | _=>exact .inr ⟨(fun h=>by cases h),h2⟩
theorem Gives.and {r:Option (Out × Heap)} {Q Q':Out→Heap→Prop} (h:Gives r Q) (h':Gives r Q'):Gives r fun o H=>Q o H∧Q' o H:=by
 obtain ⟨o,H,h1,h2⟩:=h
 obtain ⟨o',H',h3,h4⟩:=h'
 rw [h1] at h3
 simp only [Option.some.injEq,Prod.mk.injEq] at h3
 obtain ⟨rfl,rfl⟩:=h3
 exact ⟨o,H,h1,h2,h4⟩
theorem Gives.val {r:Option (Out × Heap)} {v:Value} {Q:Heap→Prop} (h:Gives r fun o H=>o = .val v∧Q H):∃ H',r=some (.val v,H')∧Q H':=by
 obtain ⟨o,H,h1,rfl,h2⟩:=h
 exact ⟨H,h1,h2⟩
theorem Ends.after {r:ResA} {Q Q':QA} (h:Ends r Q) (k:∀ e s H,r=some (e,s,H)→Q e s H→Q' e s H):Ends r Q':=by
 obtain ⟨e,s,H,h1,h2⟩:=h
 exact ⟨e,s,H,h1,k e s H h1 h2⟩
end Go.Vm
namespace Go.Vm
open Go.RowKit
variable {P:Program}
def hookAt (f0:FuncId) (g:List Value→Heap→Option (Out × Heap)) (E:Hooks):Hooks :=
 ⟨fun f=>match Nat.beq f f0 with | true=>true | false=>E.has f,fun f args H=>match Nat.beq f f0 with | true=>g args H | false=>E.run f args H⟩
theorem LR.two {L:Lay} {a b:Value} {args':List Value} (h:LR L [a,b] args'):∃ a' b',args'=[a',b']∧VR L a a'∧VR L b b':=by
 match args',h with
 | [a',b'],h=>exact ⟨a',b',rfl,h.2 0 (by simp) (by simp),h.2 1 (by simp) (by simp)⟩
 | [],h=>exact absurd h.1 (by simp)
 | [_],h=>exact absurd h.1 (by simp)
 | _ :: _ :: _ :: _,h=>exact absurd h.1 (by simp)
section
variable {N:Th} {W0:World} {f:FuncId} {fn:Func}
end
end Go.Vm
namespace Go.Vm
variable {P:Program} {E:Hooks}
def bodyOf (fn:Func):Code:=match fn.body with | some c=>c | none => .skip
noncomputable def callB (P:Program) (E:Hooks) (fn:Func) (args:List Value) (H:Heap):Option (Out × Heap) :=
 bodyA P E (run P E) fn.results.toList ((run P E).code (bodyOf fn) ⟨Fr (Bs fn.ntmps args) [],[]⟩ H)
theorem call_B {f : FuncId} {fn : Func} (hf : P.funcs[f]? = some fn) (hb : fn.body.isSome = true) (hn : (fn.name == "runtime.NumGoroutine") = false) (hE : E.has f = false) (args : List Value) (H : Heap) :
  (run P E).call f args H=callB P E fn args H:=by
 unfold callB bodyOf
 cases hc:fn.body with
 | none=>rw [hc] at hb;cases hb
 | some c=>exact call_fn hf hc hn hE args H
end Go.Vm
namespace Go.Vm
@[simp] theorem Heap.set_set (H:Heap) (i:Nat) (o o':AObj):(H.set i o).set i o'=H.set i o':=by
 unfold Heap.set
 simp only [Tr.set_set]
theorem Heap.get_set_self (H:Heap) {i:Nat} (o:AObj) (h:i < H.n):(H.set i o).get i=o:=by rw [Heap.get_set _ _ _ h,if_pos rfl]
end Go.Vm
namespace Go.Vm
open Go.RowKit
variable {P:Program} {E:Hooks}
theorem region_quiet {ops:Array Oper} (hq:quiet P ops.toList=true) {id:Nat} {s:St} {H:Heap} {Q:QA} (h:Ends (onlyNormal (exList P (run P E).call ops.toList ops.toList s H)) Q):Ends ((run P E).code (.region id ops true) s H) Q:=by
 rw [code_draw id ops s H hq];exact h
theorem region_plan {ops:Array Oper} {pl:List (Option (Nat × Nat))} (hp:planOf P ops.toList=some pl) {id:Nat} {s:St} {H:Heap} {Q:QA}
  (h:Ends (drawF P (run P E).call ops.toList pl H s.ds (exText P (run P E).call ops.toList ops.toList s.t H)) Q):Ends ((run P E).code (.region id ops true) s H) Q:=by
 rw [code_plan hp];exact h
theorem region_free {ops:Array Oper} (hp:planOf P ops.toList=none) (hla:lateAt ops.toList=none) {ms:List Nat} (hm:preOf ops.toList=ms) (ho:freeOK ops.toList ms=true) {k:Nat} (hk:needAll ops.toList=k) {id:Nat} {s:St} {H:Heap} {Q:QA}
  (h:Ends (freeF ms s.ds (freeT P (run P E).call ops.toList ops.toList s.t H.n (H.room k) 0)) Q):Ends ((run P E).code (.region id ops true) s H) Q:=by
 obtain ⟨e,s',H',h1,h2⟩:=h
 exact ⟨e,s',H',code_free hp hla hm ho hk h1,h2⟩
theorem region_late {ops:Array Oper} (hp:planOf P ops.toList=none) {q:LateQ} (hla:lateAt ops.toList=some q) {pl:List (Option (Nat × Nat))} (hpl:planOf P (lateA ops.toList)=some pl) {z:Value} (hz:zeroT P q.ty=some z)
  {id:Nat} {s:St} {H:Heap} {Q:QA} (h:Ends (lateF P (run P E).call (lateA ops.toList) pl q z H s.ds (exText P (run P E).call (lateA ops.toList) (lateA ops.toList) s.t (H.push .dead))) Q):Ends ((run P E).code (.region id ops true) s H) Q:=by
 rw [code_late hp hla hpl hz];exact h
theorem Gives.elim {r:Option (Out × Heap)} {Q:Out→Heap→Prop} (h:Gives r Q):∃ o H,r=some (o,H)∧Q o H:=h
section
variable {E:Hooks}
end
end Go.Vm
namespace Go.Vm
theorem gpe {H:Heap} {j:Nat} (o:AObj) (h:decide (j=H.n)=true):(H.push o).get j=o:=by
 have h:=of_decide_eq_true h;subst h;exact Heap.get_push_self _ _
theorem gpn {H:Heap} {j:Nat} (o:AObj) (h:¬ j=H.n):(H.push o).get j=H.get j:=by rw [Heap.get_push,if_neg h]
theorem spe {H:Heap} {j:Nat} (o o':AObj) (h:decide (j=H.n)=true):(H.push o).set j o'=H.push o':=by
 have h:=of_decide_eq_true h;subst h;simp
theorem gse {H:Heap} {i j:Nat} (o:AObj) (h:decide (j=i)=true) (hi:decide (i < H.n)=true):(H.set i o).get j=o:=by
 have h:=of_decide_eq_true h;subst h;exact Heap.get_set_self _ _ (of_decide_eq_true hi)
theorem gsn {H:Heap} {i j:Nat} (o:AObj) (h:¬ j=i):(H.set i o).get j=H.get j:=by
 unfold Heap.get
 show (match Nat.blt j H.n with | true=>(Tr.set (i + 1) H.t i o).get j | false=>AObj.dead)=_
 rw [Tr.get_set o (i + 1) H.t i j (Nat.lt_succ_self i),if_neg h]
 rfl
theorem ne_r0 {r n:Nat} (h:r < n):(r=n)=False:=eq_false (by omega)
theorem ne_l0 {r n:Nat} (h:r < n):(n=r)=False:=eq_false (by omega)
theorem le_s0 {r n:Nat} (h:r < n):(r ≤ n)=True:=eq_true (by omega)
theorem ne_r1 {r n:Nat} (h:r < n):(r=n + 1)=False:=eq_false (by omega)
theorem ne_l1 {r n:Nat} (h:r < n):(n + 1=r)=False:=eq_false (by omega)
theorem lt_s1 {r n:Nat} (h:r < n):(r < n + 1)=True:=eq_true (by omega)
theorem le_s1 {r n:Nat} (h:r < n):(r ≤ n + 1)=True:=eq_true (by omega)
theorem ne_r2 {r n:Nat} (h:r < n):(r=n + 1 + 1)=False:=eq_false (by omega)
theorem ne_l2 {r n:Nat} (h:r < n):(n + 1 + 1=r)=False:=eq_false (by omega)
theorem lt_s2 {r n:Nat} (h:r < n):(r < n + 1 + 1)=True:=eq_true (by omega)
theorem le_s2 {r n:Nat} (h:r < n):(r ≤ n + 1 + 1)=True:=eq_true (by omega)
theorem ne_r3 {r n:Nat} (h:r < n):(r=n + 1 + 1 + 1)=False:=eq_false (by omega)
theorem ne_l3 {r n:Nat} (h:r < n):(n + 1 + 1 + 1=r)=False:=eq_false (by omega)
theorem lt_s3 {r n:Nat} (h:r < n):(r < n + 1 + 1 + 1)=True:=eq_true (by omega)
theorem le_s3 {r n:Nat} (h:r < n):(r ≤ n + 1 + 1 + 1)=True:=eq_true (by omega)
theorem ne_r4 {r n:Nat} (h:r < n):(r=n + 1 + 1 + 1 + 1)=False:=eq_false (by omega)
theorem ne_l4 {r n:Nat} (h:r < n):(n + 1 + 1 + 1 + 1=r)=False:=eq_false (by omega)
theorem lt_s4 {r n:Nat} (h:r < n):(r < n + 1 + 1 + 1 + 1)=True:=eq_true (by omega)
theorem le_s4 {r n:Nat} (h:r < n):(r ≤ n + 1 + 1 + 1 + 1)=True:=eq_true (by omega)
theorem ne_r5 {r n:Nat} (h:r < n):(r=n + 1 + 1 + 1 + 1 + 1)=False:=eq_false (by omega)
theorem ne_l5 {r n:Nat} (h:r < n):(n + 1 + 1 + 1 + 1 + 1=r)=False:=eq_false (by omega)
theorem lt_s5 {r n:Nat} (h:r < n):(r < n + 1 + 1 + 1 + 1 + 1)=True:=eq_true (by omega)
theorem le_s5 {r n:Nat} (h:r < n):(r ≤ n + 1 + 1 + 1 + 1 + 1)=True:=eq_true (by omega)
theorem ne_r6 {r n:Nat} (h:r < n):(r=n + 1 + 1 + 1 + 1 + 1 + 1)=False:=eq_false (by omega)
theorem ne_l6 {r n:Nat} (h:r < n):(n + 1 + 1 + 1 + 1 + 1 + 1=r)=False:=eq_false (by omega)
theorem lt_s6 {r n:Nat} (h:r < n):(r < n + 1 + 1 + 1 + 1 + 1 + 1)=True:=eq_true (by omega)
theorem le_s6 {r n:Nat} (h:r < n):(r ≤ n + 1 + 1 + 1 + 1 + 1 + 1)=True:=eq_true (by omega)
theorem ne_r7 {r n:Nat} (h:r < n):(r=n + 1 + 1 + 1 + 1 + 1 + 1 + 1)=False:=eq_false (by omega)
theorem ne_l7 {r n:Nat} (h:r < n):(n + 1 + 1 + 1 + 1 + 1 + 1 + 1=r)=False:=eq_false (by omega)
theorem lt_s7 {r n:Nat} (h:r < n):(r < n + 1 + 1 + 1 + 1 + 1 + 1 + 1)=True:=eq_true (by omega)
theorem le_s7 {r n:Nat} (h:r < n):(r ≤ n + 1 + 1 + 1 + 1 + 1 + 1 + 1)=True:=eq_true (by omega)
theorem of_gives {r : Option (Out × Heap)} {o : Out} {Q : Heap → Prop} (h : Gives r fun o' H' => o' = o ∧ Q H') : ∃ H', r = some (o, H') ∧ Q H' := by
 obtain ⟨_, H', e, rfl, k⟩ := h
 exact ⟨H', e, k⟩
end Go.Vm
namespace Go.Vm
open Go.RowKit
variable {P:Program}
def iv (z:Int):Value := .int .i64 z
@[simp] theorem iv_eq (z:Int):iv z = .int .i64 z:=id rfl
structure IntT (P:Program) (t e:TypeId):Prop where
 elem:elemT P t=some e
 size:sizeT P e=some 1
 bytes:bytesT P e=some 8
 zero:zeroT P e=some (.int .i64 0)
 under:P.underlying t=some (.slice e)
def GL (H:Heap) (v:Value) (xs:List Int) (r:Option Nat):Prop :=
 (v = .slice none 0 0∧xs=[]∧r=none)∨∃ id off cs tl,r=some id∧v = .slice (some ⟨id,off,none⟩) xs.length xs.length∧H.get id = .row true tl 1 cs∧off + xs.length ≤ cs.length∧(cs.drop off).take xs.length=xs.map iv∧(tl=0∨tl=1∧off + xs.length=cs.length)
def Newer (H:Heap) (r r':Option Nat):Prop:=∀ i,r'=some i→r=some i∨H.n ≤ i
theorem Newer.refl (H:Heap) (r:Option Nat):Newer H r r:=fun _ h => .inl h
theorem Newer.new {H:Heap} {r:Option Nat} {i:Nat} (h:H.n ≤ i):Newer H r (some i):=fun j hj => .inr (by simp only [Option.some.injEq] at hj;omega)
theorem Newer.le {A B:Heap} {r r':Option Nat} (h:Newer B r r') (k:A.n ≤ B.n):Newer A r r':=fun i hi=>(h i hi).imp id (Nat.le_trans k)
theorem Newer.ne {A:Heap} {r r':Option Nat} (h:Newer A r r') {p:Nat} (hp:p < A.n) (hr:r ≠ some p):∀ i,r'=some i→¬ i=p:=fun i hi e=>(h i hi).elim (fun k=>hr (by rw [k,e])) (fun k=>by omega)
theorem Newer.trans {A B:Heap} {r r' r'':Option Nat} (h:Newer A r r') (k:Newer B r' r'') (hn:A.n ≤ B.n):Newer A r r'':=fun i hi=>(k i hi).elim (fun e=>h i e) (fun e => .inr (Nat.le_trans hn e))
theorem GL.lt {H:Heap} {v:Value} {xs:List Int} {r:Option Nat} (h:GL H v xs r) {i:Nat} (hi:r=some i):i < H.n:=by
 rcases h with ⟨_,_,h0⟩ | ⟨id,off,cs,tl,h0,_,h2,_⟩
 · rw [h0] at hi;cases hi
 · rw [h0] at hi;cases hi;exact Heap.lt_of_get h2 (by simp)
theorem GL.same {X:Nat→Prop} {H H':Heap} {v:Value} {xs:List Int} {r:Option Nat} (h:GL H v xs r) (k:Same X H H') (hx:∀ i,r=some i→¬ X i):GL H' v xs r:=by
 refine h.imp id ?_
 rintro ⟨id,off,cs,tl,h0,h1,h2,h3⟩
 exact ⟨id,off,cs,tl,h0,h1,k.at h2 (by simp) (hx id h0),h3⟩
theorem GL.nil (H:Heap):GL H (.slice none 0 0) [] none := .inl ⟨rfl,rfl,rfl⟩
def SL (H:Heap) (v:Value) (xs:List Int):Prop :=
 ∃ base cap,v = .slice base xs.length cap∧((base=none∧xs=[])∨∃ r off own tl es cs,base=some ⟨r,off,none⟩∧H.get r = .row own tl es cs∧off + xs.length ≤ cs.length∧(cs.drop off).take xs.length=xs.map iv)
theorem GL.sl {H:Heap} {v:Value} {xs:List Int} {r:Option Nat} (h:GL H v xs r):SL H v xs:=by
 rcases h with ⟨rfl,rfl,_⟩ | ⟨r,off,cs,tl,_,rfl,h2,h3,h4,h5⟩
 · exact ⟨none,0,rfl,.inl ⟨rfl,rfl⟩⟩
 · exact ⟨_,_,rfl,.inr ⟨r,off,true,tl,1,cs,rfl,h2,h3,h4⟩⟩
theorem SL.same {H H':Heap} {v:Value} {xs:List Int} (h:SL H v xs) (k:∀ i o,H.get i=o→o ≠ .dead→H'.get i=o):SL H' v xs:=by
 obtain ⟨base,cap,h1,h2⟩:=h
 refine ⟨base,cap,h1,h2.imp id ?_⟩
 rintro ⟨r,off,own,tl,es,cs,h3,h4,h5⟩
 exact ⟨r,off,own,tl,es,cs,h3,k _ _ h4 (by simp),h5⟩
theorem Same.all {H H':Heap} (k:Same (fun _=>False) H H'):∀ i o,H.get i=o→o ≠ .dead→H'.get i=o:=fun i o h hd=>k.at h hd (fun h=>h)
theorem SL.slice {H:Heap} {v:Value} {xs:List Int} (h:SL H v xs):∃ b n c,v = .slice b n c:=by
 obtain ⟨base,cap,rfl,_⟩:=h;exact ⟨_,_,_,rfl⟩
theorem SL.len {H:Heap} {v:Value} {xs:List Int} (h:SL H v xs):lenA v=some xs.length:=by
 obtain ⟨base,cap,rfl,_⟩:=h;rfl
theorem SL.cells {H:Heap} {v:Value} {xs:List Int} (h:SL H v xs):cellsOf H 1 xs.length v=some (xs.map iv):=by
 obtain ⟨base,cap,rfl,⟨rfl,rfl⟩ | ⟨r,off,own,tl,es,cs,rfl,h2,h3,h4⟩⟩:=h
 · rfl
 · simp [h2,h3,h4]
theorem SL.cell {H:Heap} {xs:List Int} {r off n cap:Nat} (h:SL H (.slice (some ⟨r,off,none⟩) n cap) xs):n=xs.length∧∃ cs,rowCells (H.get r)=some cs∧off + xs.length ≤ cs.length∧∀ i,i < xs.length→cs[off + i]? = some (iv (xs.getD i 0)):=by
 obtain ⟨base,cap',h0,h⟩:=h
 simp only [Value.slice.injEq] at h0
 obtain ⟨rfl,rfl,rfl⟩:=h0
 rcases h with ⟨h,_⟩ | ⟨r',off',own,tl,es,cs,h1,h2,h3,h4⟩
 · cases h
 · simp only [Option.some.injEq,Addr.mk.injEq,and_true] at h1
   obtain ⟨rfl,rfl⟩:=h1
   refine ⟨rfl,cs,by rw [h2];rfl,h3,fun i hi => ?_⟩
   have:=congrArg (·[i]?) h4
   simp only [List.getElem?_take,List.getElem?_drop,if_pos hi,List.getElem?_map] at this
   rw [this,List.getElem?_eq_getElem hi,List.getD_eq_getElem?_getD,List.getElem?_eq_getElem hi]
   rfl
theorem GL.cons {H:Heap} {v:Value} {x:Int} {xs:List Int} {r:Option Nat} (h:GL H v (x :: xs) r):∃ id off cs tl,r=some id∧v = .slice (some ⟨id,off,none⟩) (xs.length + 1) (xs.length + 1)∧H.get id = .row true tl 1 cs∧cs[off]? = some (iv x):=by
 rcases h with ⟨_,h0,_⟩ | ⟨id,off,cs,tl,h0,h1,h2,h3,h4,_⟩
 · cases h0
 · refine ⟨id,off,cs,tl,h0,h1,h2,?_⟩
   have:=congrArg (·[0]?) h4
   simpa using this
section
variable {t e:TypeId} (T:IntT P t e)
include T
end
end Go.Vm
namespace Go.Vm
open Go.RowKit
variable {P:Program} {E:Hooks}
theorem ends_cut {r:ResA} {k:St→Heap→ResA} {Q:QA} {hk:Held k} (J:List Value→Heap→Prop) (h1:Ends r fun e s H=>e = .normal∧s.ds=[]∧J s.t H)
  (h2:∀ t H,J t H→Ends (k ⟨Fr t [],[]⟩ H) Q):Ends r (bindQ k Q hk):=by
 obtain ⟨e,⟨t,ds⟩,H,e1,rfl,e2,hJ⟩:=h1
 simp only at e2
 subst e2
 have:=h2 t H hJ
 rw [Fr_nil] at this
 exact ⟨_,_,H,e1,this⟩
def cutQ (J:List Value→Heap→Prop) (Q:QA):QA:=fun e s H=>match e with
 | .normal=>s.ds=[]∧J s.t H
 | .ret=>Q .ret s H
 | _=>False
@[simp] theorem cutQ_normal (J:List Value→Heap→Prop) (Q:QA) (s:St) (H:Heap):cutQ J Q .normal s H=(s.ds=[]∧J s.t H):=id rfl
@[simp] theorem cutQ_ret (J:List Value→Heap→Prop) (Q:QA) (s:St) (H:Heap):cutQ J Q .ret s H=Q .ret s H:=id rfl
theorem ends_cut2 {r:ResA} {k:St→Heap→ResA} {Q:QA} {hk:Held k} (J:List Value→Heap→Prop) (h1:Ends r (cutQ J Q)) (h2:∀ t H,J t H→Ends (k ⟨Fr t [],[]⟩ H) Q):Ends r (bindQ k Q hk):=by
 obtain ⟨e,⟨t,ds⟩,H,e1,hJ⟩:=h1
 cases e with
 | normal =>
  rw [cutQ_normal] at hJ
  obtain ⟨e2,hJ⟩:=hJ
  simp only at e2
  subst e2
  have:=h2 t H hJ
  rw [Fr_nil] at this
  exact ⟨_,_,H,e1,this⟩
 | ret=>exact ⟨_,_,H,e1,by rw [bindQ_ret];exact hJ⟩
 | _=>exact hJ.elim
theorem loop_mid {c:Code} {t0:List Value} {H0:Heap} {i:Nat} {k:St→Heap→ResA} {Q:QA} {hk:Held k} (J:List Value→Heap→Prop) (I:Nat→List Value→Heap→Prop) (m0:Nat) (h0:I m0 t0 H0)
  (step:∀ m t H,Kept (dstsOf c) t0 t→I m t H→Ends ((run P E).code c ⟨Fr t [],[]⟩ H) (roundQ (dstsOf c) t0 I m fun e s H=>e = .exit i∧s.ds=[]∧J s.t H))
  (after:∀ t H,Kept (dstsOf c) t0 t→J t H→Ends (k ⟨Fr t [],[]⟩ H) Q):Ends ((run P E).code (.loop c) ⟨t0,[]⟩ H0) (blockQ i (bindQ k Q hk)):=by
 refine loop_ends (fun m t H=>Kept (dstsOf c) t0 t∧I m t H) ?_ m0 t0 H0 ⟨Kept.refl _ _,h0⟩
 rintro m t H ⟨hk,hI⟩
 obtain ⟨e,s,H',h1,h2⟩:=step m t H hk hI
 rw [Fr_nil] at h1
 refine ⟨e,s,H',h1,?_⟩
 have key:(e = .exit i∧s.ds=[]∧J s.t H')→blockQ i (bindQ k Q ‹_›) e s H':=by
  rintro ⟨rfl,h3,h4⟩
  obtain ⟨t',ds⟩:=s
  simp only at h3
  subst h3
  rw [blockQ_exit,if_pos rfl,bindQ_normal]
  have:=after t' H' (hk.trans (kept_run h1)) h4
  rwa [Fr_nil] at this
 cases e with
 | normal=>rw [roundQ_normal] at h2;obtain ⟨h3,m',h4,h5⟩:=h2;exact .inl ⟨rfl,h3,m',h4,hk.trans (kept_run h1),h5⟩
 | exit j=>rw [roundQ_exit] at h2;exact .inr ⟨(fun h=>by cases h),key h2⟩
 | goto j=>rw [roundQ_goto] at h2;exact absurd h2.1 (by simp)
 | ret=>rw [roundQ_ret] at h2;exact absurd h2.1 (by simp)
 | pan v=>rw [roundQ_pan] at h2;exact absurd h2.1 (by simp)
def midQ (i:Nat) (J:List Value→Heap→Prop) (Q:QA):QA:=fun e s H=>match e with
 | .exit j=>j=i∧s.ds=[]∧J s.t H
 | .ret=>Q .ret s H
 | _=>False
@[simp] theorem midQ_exit (i:Nat) (J:List Value→Heap→Prop) (Q:QA) (j:Nat) (s:St) (H:Heap):midQ i J Q (.exit j) s H=(j=i∧s.ds=[]∧J s.t H):=id rfl
@[simp] theorem midQ_ret (i:Nat) (J:List Value→Heap→Prop) (Q:QA) (s:St) (H:Heap):midQ i J Q .ret s H=Q .ret s H:=id rfl
theorem loop_mid2 {c:Code} {t0:List Value} {H0:Heap} {i:Nat} {k:St→Heap→ResA} {Q:QA} {hk:Held k} (J:List Value→Heap→Prop) (I:Nat→List Value→Heap→Prop) (m0:Nat) (h0:I m0 t0 H0)
  (step:∀ m t H,Kept (dstsOf c) t0 t→I m t H→Ends ((run P E).code c ⟨Fr t [],[]⟩ H) (roundQ (dstsOf c) t0 I m (midQ i J Q)))
  (after:∀ t H,Kept (dstsOf c) t0 t→J t H→Ends (k ⟨Fr t [],[]⟩ H) Q):Ends ((run P E).code (.loop c) ⟨t0,[]⟩ H0) (blockQ i (bindQ k Q hk)):=by
 refine loop_ends (fun m t H=>Kept (dstsOf c) t0 t∧I m t H) ?_ m0 t0 H0 ⟨Kept.refl _ _,h0⟩
 rintro m t H ⟨hk,hI⟩
 obtain ⟨e,s,H',h1,h2⟩:=step m t H hk hI
 rw [Fr_nil] at h1
 refine ⟨e,s,H',h1,?_⟩
 cases e with
 | normal=>rw [roundQ_normal] at h2;obtain ⟨h3,m',h4,h5⟩:=h2;exact .inl ⟨rfl,h3,m',h4,hk.trans (kept_run h1),h5⟩
 | exit j =>
  rw [roundQ_exit,midQ_exit] at h2
  refine .inr ⟨(fun h=>by cases h),?_⟩
  obtain ⟨rfl,h3,h4⟩:=h2
  obtain ⟨t',ds⟩:=s
  simp only at h3
  subst h3
  rw [blockQ_exit,if_pos rfl,bindQ_normal]
  have:=after t' H' (hk.trans (kept_run h1)) h4
  rwa [Fr_nil] at this
 | goto j=>rw [roundQ_goto] at h2;exact h2.elim
 | ret=>rw [roundQ_ret,midQ_ret] at h2;exact .inr ⟨(fun h=>by cases h),by rw [blockQ_ret,bindQ_ret];exact h2⟩
 | pan v=>rw [roundQ_pan] at h2;exact h2.elim
end Go.Vm
namespace Go.Vm
open Go
theorem builtin_max {P:Program} (ts:List TypeId) (a b:Int) (H:Heap):exBuiltin P .max ts [.int .i64 a,.int .i64 b] H=some (.val (.int .i64 (max a b)),H):=by
 have e:pureRun P (Builtin.max_ ts.toArray 0 #[Value.int .i64 a,Value.int .i64 b])=some (.int .i64 (max a b)):=by
  show some (Value.int .i64 (if b > a then b else a))=_
  have:(if b > a then b else a)=max a b:=by split <;> omega
  rw [this]
 show (match groundL [Value.int .i64 a,Value.int .i64 b] with | true=>val1 (ifGround (pureRun P (Builtin.max_ ts.toArray 0 #[Value.int .i64 a,Value.int .i64 b]))) H | false=>none)=_
 rw [e]
 rfl
end Go.Vm
