/- What is proved: the program's reader of expressions: signs ahead, names, the innermost. What is proved: 'expr.Parse' reads what the reader of expressions in plain words reads. What is proved: what an append of one element does with a list of wide elements; no theorem of the program. What is defined and proved: a reader of bytes, in plain words; its small steps. What is defined and proved: the reader of bytes, in plain words; its walk. What is defined and proved: whether two expressions are the same; an expression's places; lists of numbers compared. What is proved: structs of whole numbers and strings, compared. What is defined and proved: the reader of bytes, by what is left of the text. What is proved: the reference's 'Expr' reads what the reader of expressions in plain words reads; the size of what is read; the law's own functions. What is proved: the run of 'signalboxlaw23.awake'. What is proved: 'signalboxlaw23.ExprParses' hands back true, whatever the input. What is proved: strings put together, and made into bytes. What is defined and proved: lists in rows that grow by one; the reader's 'items'. What is defined and proved: reading goes on; the reader's 'args'. What is defined and proved: branches and statements in plain words, and in the heap; a reader of statements, in plain words. What is proved: the reader's 'named'. What is proved: reading statements goes on. What is proved: the reader's 'stmts' and 'block', if its 'stmt' reads. What is proved: the reader's steps beside a variable of its own. What is proved: the maker of sources goes on, whatever its numbers are: its small steps. What is proved: the maker of sources goes on: expressions, truths, items. What is proved: the maker of sources goes on: truths, conditions, items, the procedure that is called. What is proved: the maker of sources goes on: processes that begin side by side. What is proved: the maker of sources goes on: statements in rows, and regions. What is proved: the maker of sources goes on: one statement. -/
import Derived.Test.YtmojliogiiembaaDoorY4
set_option maxRecDepth 100000
set_option maxHeartbeats 4000000
set_option linter.unusedSimpArgs false
set_option linter.unusedVariables false
set_option linter.unusedSectionVars false
namespace Go.Vm.Ex
open Go Go.Proofs Go.Vm.Parse
attribute [local simp] repCells_succ writeAt rd_Fr toList_beq gpe gpn spe gse gsn ne_r0 ne_l0 le_s0 ne_r1 ne_l1 lt_s1 le_s1 ne_r2 ne_l2 lt_s2 le_s2 ne_r3 ne_l3 lt_s3 le_s3 ne_r4 ne_l4 lt_s4 le_s4 ne_r5 ne_l5 lt_s5 le_s5 ne_r6 ne_l6 lt_s6 le_s6 ne_r7 ne_l7 lt_s7 le_s7
theorem opens_hi {L:List Tk}{s:PS}{lv:Int}(hc:s.c=0)(h:24≤lv):opensS L s (lv+1)={ s with c:=15,a:=(tok L s.p).at_ }:=by
 unfold opensS faultS
 rw[if_pos (by omega),if_pos hc]
theorem opens_lo {L:List Tk}{s:PS}{lv:Int}(h:lv<24):opensS L s (lv+1)=s:=by
 unfold opensS
 rw[if_neg (by omega)]
section
variable {E:Hooks} (hE:Plain E)
include hE
theorem deeper_any {f:FuncId}{cmd:Int→XC}{n:Nat}{H:Heap}{r lid:Nat}{L:List Tk}{s s':PS}{lv:Int}{e:Ex}(hf:Reads E L f cmd n)(h:RP H r lid L s lv)(hc:s.c=0)(h0l:0≤lv)(hp:s.p<L.length)
  (hx:(if (opensS L s (lv+1)).c≠0 then some (Ex.zero,opensS L s (lv+1))else xP L n (cmd (lv+1)) (opensS L s (lv+1)).on)=some (e,s')) :
  Gives ((run Tryd.prog E).call 116 [.pointer (some ⟨r,0,none⟩),.func (.func f) #[.pointer (some ⟨r,0,none⟩)] #[]] H) (RetX H r lid L e s' lv):=by
 rcases Int.lt_or_le lv 24 with hlv | hlv
 · rw[opens_lo hlv,if_neg (by simpa using hc)]at hx
   exact deeper_run hE hf h hc h0l hlv hp hx
 · rw[opens_hi hc hlv,if_pos (by simp)]at hx
   simp only[Option.some.injEq,Prod.mk.injEq]at hx
   obtain⟨rfl,rfl⟩:=hx
   obtain⟨o,H',e1,rfl,k,q⟩:=deeper_no hE (f:=f) h hc hlv
   exact⟨_,_,e1,_,rfl,six_z,k,q.q,fun h=>by simp at h⟩
theorem un_reads {f:FuncId}{cmd:Int→XC}{n:Nat}{H:Heap}{r lid:Nat}{L:List Tk}{s s':PS}{lv:Int}{e:Ex}(k:Int)(hf:Reads E L f cmd n)(h:RP H r lid L s lv)(hc:s.c=0)(h0l:0≤lv)(hp:s.p<L.length)
  (hx:(if (opensS L s (lv+1)).c≠0 then some (Ex.zero,opensS L s (lv+1))else (xP L n (cmd (lv+1)) (opensS L s (lv+1)).on).map fun q=>(.mk 5 (tok L s.p).at_ 0 k ByteArray.empty [q.1],q.2))=some (e,s')) :
  Gives ((run Tryd.prog E).call 107 [.pointer (some ⟨r,0,none⟩),.int .i64 k,.func (.func f) #[.pointer (some ⟨r,0,none⟩)] #[]] H) (RetX H r lid L e s' lv):=by
 by_cases ho:(opensS L s (lv+1)).c≠0
 · rw[if_pos ho]at hx
   simp only[Option.some.injEq,Prod.mk.injEq]at hx
   obtain⟨rfl,rfl⟩:=hx
   exact un_core hE k h (fun K hK=>deeper_any hE hf hK hc h0l hp (by rw[if_pos ho])) (fun h=>absurd h ho)
 · rw[if_neg ho]at hx
   simp only[Option.map_eq_some_iff]at hx
   obtain⟨⟨e0,s0⟩,h1,h2⟩:=hx
   simp only[Prod.mk.injEq]at h2
   obtain⟨rfl,rfl⟩:=h2
   exact un_core hE k h (fun K hK=>deeper_any hE hf hK hc h0l hp (by rw[if_neg ho];exact h1)) (fun _=>rfl)
theorem neg_reads {L:List Tk}{n:Nat}(hrel:Reads E L 108 (.row 4) n)(hneg:Reads E L 93 (.row 3) n):Reads E L 93 (.row 3) (n+1):=by
 intro H r lid s lv e s' h hc h0l hlv hx
 have hr:=h.lt
 have hl:=h.lid_lt
 have h0:=h.same (Same.push (fun _=>False) _ (.row true 0 1 z6))
 obtain⟨H1,e1,k1⟩:=tok_run hE h0
 have h1:=h0.same k1
 have e2:=is_run2 hE (tok L s.p) tNot H1
 have h2:=h1.same (Same.push (fun _=>False) _ (.row true 0 1 (tok L s.p).cells))
 have kS:Same (fun _=>False) (H.push (.row true 0 1 z6)) (H1.push (.row true 0 1 (tok L s.p).cells)):=k1.then_push _
 rw[xP,if_neg (by simpa using hc),if_neg (by omega),if_pos rfl,isT_P hc]at hx
 by_cases hi:isT (tok L s.p) tNot=true
 · rw[if_neg (by rw[hi];simp)]at hx
   obtain⟨o,K',e3,hR⟩:=un_reads hE 23 hneg h2 hc h0l (isT_lt hi) hx
   obtain⟨cs,rfl,⟨a,b,c,d,y,b1,m1,c1,rfl⟩,g,hn,fin⟩:=RetX.out hE hr hl kS hR
   rw[k_neg hE,callB,bodyOf]
   rw[hi]at e2
   simp only[tNot]at e2
   generalize tok L s.p=tk at *
   simp only[Tk.v,Tk.cells,z6]at *
   simp[Tryd.f93,e1,e2,e3,g,hn]
   exact fin
 · have hi':isT (tok L s.p) tNot=false:=by simpa using hi
   rw[if_pos hi']at hx
   obtain⟨o,K',e3,hR⟩:=hrel _ r lid s lv e s' h2 hc h0l hlv hx
   obtain⟨cs,rfl,⟨a,b,c,d,y,b1,m1,c1,rfl⟩,g,hn,fin⟩:=RetX.out hE hr hl kS hR
   rw[k_neg hE,callB,bodyOf]
   rw[hi']at e2
   simp only[tNot]at e2
   generalize tok L s.p=tk at *
   simp only[Tk.v,Tk.cells,z6]at *
   simp[Tryd.f93,e1,e2,e3,g,hn]
   exact fin
theorem name_reads {L:List Tk}{n:Nat}(hex:∀ j,j<n→Reads E L 42 (.row 1) j){H:Heap}{r lid:Nat}{s s':PS}{lv:Int}{e:Ex}(h:RP H r lid L s lv)(hc:s.c=0)(h0l:0≤lv)(hk:(tok L s.p).kind=1)
  (hx:(if isP L s.on (b1 91)=false then some (Ex.mk 3 (tok L s.p).at_ 0 0 (tok L s.p).text [],s.on)else (xP L n (.index lv) s.on).map fun q=>(.mk 4 (tok L s.p).at_ 0 0 (tok L s.p).text [q.1],q.2))=some (e,s')) :
  Gives ((run Tryd.prog E).call 124 [.pointer (some ⟨r,0,none⟩),(tok L s.p).v] H) (RetX H r lid L e s' lv):=by
 have hr:=h.lt
 have hl:=h.lid_lt
 have hsm:=h.small
 have hp:s.p<L.length:=tok_ge_kind (by omega)
 have kA:Same (fun _=>False) H ((H.push (.row true 0 1 (tok L s.p).cells)).push (.row true 0 1 z6)):=(Same.push _ _ _).then_push _
 have h0:=h.same kA
 have hobj:=h0.obj
 have h1:=h0.turn s.on lv (by show s.p+1≤_;omega)
 have kB:Same (·=r) ((H.push (.row true 0 1 (tok L s.p).cells)).push (.row true 0 1 z6)) _:=Same.set (X:=(·=r)) _ h0.lt rfl (.row true 0 1 (prs lid L.length s.on lv))
 obtain⟨H1,e1,k1⟩:=tok_run hE h1
 have h2:=h1.same k1
 have e2:=is_run2 hE (tok L s.on.p) (b1 91) H1
 have h3:=h2.same (Same.push (fun _=>False) _ (.row true 0 1 (tok L s.on.p).cells))
 have n1:=k1.n
 simp at n1
 have kC:Same (·=r) ((H.push (.row true 0 1 (tok L s.p).cells)).push (.row true 0 1 z6)) (H1.push (.row true 0 1 (tok L s.on.p).cells)):=(kB.trans (Same.none k1)).then_push _
 have gt:(H1.push (.row true 0 1 (tok L s.on.p).cells)).get H.n = .row true 0 1 (tok L s.p).cells:=kC.at (by rw[Heap.get_push,if_neg (by simp),Heap.get_push_self]) (by simp) (by omega)
 have gz:(H1.push (.row true 0 1 (tok L s.on.p).cells)).get (H.n+1) = .row true 0 1 z6:=kC.at (by exact Heap.get_push_self _ _) (by simp) (by omega)
 have hw:=wrap64 ((s.p:Int)+1) (by omega) (by omega)
 rw[isT_P (s:=s.on) hc]at hx
 by_cases hi:isT (tok L s.on.p) (b1 91)=true
 · rw[if_neg (by rw[hi];simp)]at hx
   simp only[Option.map_eq_some_iff]at hx
   obtain⟨⟨e0,s0⟩,hx1,hx2⟩:=hx
   simp only[Prod.mk.injEq]at hx2
   obtain⟨rfl,rfl⟩:=hx2
   have hp2:=isT_lt hi
   obtain⟨j,q,hj,hq,hs0⟩:∃ j q,j<n∧(if (opensS L s.on (lv+1)).c≠0 then some (Ex.zero,opensS L s.on (lv+1))else xP L j (.row 1 (lv+1)) (opensS L s.on (lv+1)).on)=some (e0,q)∧s0=mustS L q (b1 93):=by
    cases n with
    | zero=>cases hx1
    | succ j =>
     rw[xP,isT_P (s:=s.on) hc,if_neg (by rw[hi];simp)]at hx1
     by_cases ho:(opensS L s.on (lv+1)).c≠0
     · rw[if_pos ho]at hx1
       simp only[Option.some.injEq,Prod.mk.injEq]at hx1
       obtain⟨rfl,rfl⟩:=hx1
       refine⟨j,_,Nat.lt_succ_self j,by rw[if_pos ho],?_⟩
       unfold mustS
       rw[if_neg (by unfold isP;simp[ho])]
     · rw[if_neg ho]at hx1
       simp only[Option.map_eq_some_iff,Prod.mk.injEq]at hx1
       obtain⟨⟨e1,q⟩,h1,rfl,rfl⟩:=hx1
       exact⟨j,q,Nat.lt_succ_self j,by rw[if_neg ho];exact h1,rfl⟩
   subst hs0
   obtain⟨o,K,e3,cs,rfl,⟨a,b,c,d,y,b1',m1,c1,rfl⟩,k3,q3,r3⟩:=deeper_any hE (hex j hj) h3 hc h0l hp2 hq
   have n3:=k3.n
   simp at n3
   have q4:=q3.keep (Same.push (fun _=>False) _ (.row true 0 1 [.int .i64 a,.int .i64 b,.int .i64 c,.int .i64 d,.string y,.slice b1' m1 c1])) (fun h=>h) (fun h=>h)
   obtain⟨K2,e5,k5,q5⟩:=need_run hE q4 (b1 93)
   have n5:=k5.n
   simp at n5
   have g5:K2.get K.n = .row true 0 1 [.int .i64 a,.int .i64 b,.int .i64 c,.int .i64 d,.string y,.slice b1' m1 c1]:=k5.at (Heap.get_push_self _ _) (by simp) (by omega)
   have kD:Same (·=r) (H1.push (.row true 0 1 (tok L s.on.p).cells)) K2:=(k3.then_push _).trans k5
   have gt2:K2.get H.n = .row true 0 1 (tok L s.p).cells:=kD.at gt (by simp) (by omega)
   have gz2:K2.get (H.n+1) = .row true 0 1 z6:=kD.at gz (by simp) (by omega)
   have k6:Same (fun _=>False) K2 (K2.push (.row true 0 6 [.int .i64 a,.int .i64 b,.int .i64 c,.int .i64 d,.string y,.slice b1' m1 c1])):=Same.push _ _ _
   have k7:Same (fun i=>i=H.n+1) _ _:=Same.set (X:=fun i=>i=H.n+1) (K2.push (.row true 0 6 [.int .i64 a,.int .i64 b,.int .i64 c,.int .i64 d,.string y,.slice b1' m1 c1])) (by simp;omega) rfl (.row true 0 1 [.int .i64 4,.int .i64 (tok L s.p).at_,.int .i64 0,.int .i64 0,.string (tok L s.p).text,.slice (some ⟨K2.n,0,none⟩) 1 1])
   have fin:RetX H r lid L (.mk 4 (tok L s.p).at_ 0 0 (tok L s.p).text [e0]) (mustS L q (b1 93)) lv (.val (.agg ⟨[.int .i64 4,.int .i64 (tok L s.p).at_,.int .i64 0,.int .i64 0,.string (tok L s.p).text,.slice (some ⟨K2.n,0,none⟩) 1 1]⟩)) ((K2.push (.row true 0 6 [.int .i64 a,.int .i64 b,.int .i64 c,.int .i64 d,.string y,.slice b1' m1 c1])).set (H.n+1) (.row true 0 1 [.int .i64 4,.int .i64 (tok L s.p).at_,.int .i64 0,.int .i64 0,.string (tok L s.p).text,.slice (some ⟨K2.n,0,none⟩) 1 1])):=by
    refine⟨_,rfl,⟨_,_,_,_,_,_,_,_,rfl⟩,?_,(q5.keep k6 (fun h=>h) (fun h=>h)).keep k7 (by omega) (by omega),fun hc3 => ?_⟩
    · exact (((((Same.none kA).trans kC).trans kD).trans (Same.none k6))).then k7 (fun i hi => .inr (by omega))
    · have hq0:q.c=0:=(mustS_le L q (b1 93)).code hc3
      have r4:=RE.up (n:=H.n+1+1) (r3 hq0) ((Same.none (X:=(·=r)) (Same.push (fun _=>False) _ _)).trans k5 |>.trans (Same.none k6)) (by simp;omega) (fun i hi=>by simp;omega)
      have r6:=RE.parts 4 (tok L s.p).at_ 0 0 (tok L s.p).text (S:=fun i=>H.n+1+1≤i) (id:=K2.n) (by omega) (Heap.get_push_self _ _) (REs.one r4)
      exact RE.up r6 k7 (by omega) (fun i hi=>by omega)
   rw[k_name hE,callB,bodyOf]
   rw[hi]at e2
   simp only[b1]at e2
   generalize tok L s.p=tk at *
   generalize tok L s.on.p=tk2 at *
   simp only[Tk.v,Tk.cells,z6,prs,PS.on,Int.natCast_add,Int.natCast_one,b1]at *
   simp[Tryd.f124,hobj,hw,e1,e2,hr]
   simp[e3,e5,g5,gt2,gz2,show H.n<K2.n by omega,show K.n<K2.n by omega,show H.n+1<K2.n by omega,show ¬H.n+1=K2.n by omega]
   exact fin
 · have hi':isT (tok L s.on.p) (b1 91)=false:=by simpa using hi
   rw[if_pos hi']at hx
   simp only[Option.some.injEq,Prod.mk.injEq]at hx
   obtain⟨rfl,rfl⟩:=hx
   have k7:Same (fun i=>i=H.n+1) _ _:=Same.set (X:=fun i=>i=H.n+1) (H1.push (.row true 0 1 (tok L s.on.p).cells)) (by simp;omega) rfl (.row true 0 1 [.int .i64 3,.int .i64 (tok L s.p).at_,.int .i64 0,.int .i64 0,.string (tok L s.p).text,.slice none 0 0])
   have fin:RetX H r lid L (.mk 3 (tok L s.p).at_ 0 0 (tok L s.p).text []) s.on lv (.val (.agg ⟨[.int .i64 3,.int .i64 (tok L s.p).at_,.int .i64 0,.int .i64 0,.string (tok L s.p).text,.slice none 0 0]⟩)) ((H1.push (.row true 0 1 (tok L s.on.p).cells)).set (H.n+1) (.row true 0 1 [.int .i64 3,.int .i64 (tok L s.p).at_,.int .i64 0,.int .i64 0,.string (tok L s.p).text,.slice none 0 0])):=by
    refine⟨_,rfl,⟨_,_,_,_,_,_,_,_,rfl⟩,((Same.none kA).trans kC).then k7 (fun i hi => .inr (by omega)),(h3.keep k7 (by omega) (by omega)).q,fun _=>RE.nil _ _ _ _ _ _ _⟩
   rw[k_name hE,callB,bodyOf]
   rw[hi']at e2
   simp only[b1]at e2
   generalize tok L s.p=tk at *
   generalize tok L s.on.p=tk2 at *
   simp only[Tk.v,Tk.cells,z6,prs,PS.on,Int.natCast_add,Int.natCast_one,b1]at *
   simp[Tryd.f124,hobj,hw,e1,e2,hr]
   simp[gt,gz,show H.n<H1.n by omega,show H.n+1<H1.n+1 by omega,show ¬H.n+1=H1.n by omega]
   exact fin
theorem prim_reads {L:List Tk}{n:Nat}(hex:∀ j,j≤n→Reads E L 42 (.row 1) j){H:Heap}{r lid:Nat}{s s':PS}{lv:Int}{e:Ex}(h:RP H r lid L s lv)(hc:s.c=0)(h0l:0≤lv)(hm:isP L s (b1 45)=false)
  (hx:xP L (n+1) (.fact lv) s=some (e,s')):Gives ((run Tryd.prog E).call 123 [.pointer (some ⟨r,0,none⟩)] H) (RetX H r lid L e s' lv):=by
 have hr:=h.lt
 have hl:=h.lid_lt
 have hsm:=h.small
 have h0:=h.same (Same.push (fun _=>False) _ (.row true 0 1 z6))
 obtain⟨H1,e1,k1⟩:=tok_run hE h0
 have n1:=k1.n
 simp at n1
 have h1:=h0.same k1
 obtain⟨K,hK⟩:∃ K,K=H1.push (.row true 0 1 (tok L s.p).cells):=⟨_,rfl⟩
 have hRP:RP K r lid L s lv:=by rw[hK];exact h1.same (Same.push (fun _=>False) _ _)
 have kS:Same (fun _=>False) (H.push (.row true 0 1 z6)) K:=by rw[hK];exact k1.then_push _
 have nK:K.n=H1.n+1:=by rw[hK];rfl
 have gt:K.get H1.n = .row true 0 1 (tok L s.p).cells:=by rw[hK];exact Heap.get_push_self _ _
 have gz:K.get H.n = .row true 0 1 z6:=kS.at (Heap.get_push_self _ _) (by simp) (fun h=>h)
 have hbad:=bad_run2 hE hRP
 have hobj:=hRP.obj
 have hw:=wrap64 ((s.p:Int)+1)
 have eT:=is_run2 hE (tok L s.p) tTrue K
 have eF:=is_run2 hE (tok L s.p) tFalse (K.push (.row true 0 1 (tok L s.p).cells))
 have eP:=is_run2 hE (tok L s.p) (b1 40) ((K.push (.row true 0 1 (tok L s.p).cells)).push (.row true 0 1 (tok L s.p).cells))
 rw[xP,if_neg (by rw[hm];simp)]at hx
 have plain:∀ (M:Heap) (a b c:Int),Same (fun _=>False) K M→s.p<L.length→∀ (M2:Heap),M2=(M.set r (.row true 0 1 (prs lid L.length s.on lv))).set H.n (.row true 0 1 [.int .i64 a,.int .i64 b,.int .i64 c,.int .i64 0,.string ByteArray.empty,.slice none 0 0]) →
   RetX H r lid L (.mk a b c 0 ByteArray.empty []) s.on lv (.val (.agg ⟨[.int .i64 a,.int .i64 b,.int .i64 c,.int .i64 0,.string ByteArray.empty,.slice none 0 0]⟩)) M2:=by
  intro M a b c kM hp M2 hM2
  subst hM2
  have hM:=hRP.same kM
  have nM:=kM.n
  have h5:=hM.turn s.on lv (by show s.p+1≤_;omega)
  have k5:Same (·=r) M _:=Same.set (X:=(·=r)) M hM.lt rfl (.row true 0 1 (prs lid L.length s.on lv))
  have k6:Same (fun i=>i=H.n) _ _:=Same.set (X:=fun i=>i=H.n) (M.set r (.row true 0 1 (prs lid L.length s.on lv))) (by simp;omega) rfl (.row true 0 1 [.int .i64 a,.int .i64 b,.int .i64 c,.int .i64 0,.string ByteArray.empty,.slice none 0 0])
  exact⟨_,rfl,⟨_,_,_,_,_,_,_,_,rfl⟩,((((Same.none (Same.push _ _ _)).trans (Same.none kS)).trans (Same.none kM)).trans k5).then k6 (fun i hi => .inr (by omega)),(h5.keep k6 (by omega) (by omega)).q,fun _=>RE.nil _ _ _ _ _ _ _⟩
 rw[k_prim hE,callB,bodyOf]
 have hT:isP L s tTrue=isT (tok L s.p) tTrue:=isT_P hc _
 have hF:isP L s tFalse=isT (tok L s.p) tFalse:=isT_P hc _
 have hP:isP L s (b1 40)=isT (tok L s.p) (b1 40):=isT_P hc _
 by_cases c1:(tok L s.p).kind=2
 · rw[if_pos c1]at hx
   simp only[Option.some.injEq,Prod.mk.injEq]at hx
   obtain⟨rfl,rfl⟩:=hx
   have hp:s.p<L.length:=tok_ge_kind (by omega)
   have fin:=plain K 1 (tok L s.p).at_ (tok L s.p).num (Same.refl _ _) hp
   have hw:=hw (by omega) (by omega)
   generalize tok L s.p=tk at *
   simp only[Tk.v,Tk.cells,z6,prs,PS.on,Int.natCast_add,Int.natCast_one]at *
   simp[Tryd.f123,e1]
   rw[← hK]
   simp[hbad,hc,gt,gz,c1,hobj,hw,show H1.n<K.n by omega,show H.n<K.n by omega,show ¬H1.n=r by omega,show ¬H.n=r by omega,show ¬r=H.n by omega]
   have f:=fin _ rfl
   simp only[hc]at f
   exact f
 rw[if_neg c1]at hx
 have gt1:(K.push (.row true 0 1 (tok L s.p).cells)).get H1.n = .row true 0 1 (tok L s.p).cells:=by rw[Heap.get_push,if_neg (by omega)];exact gt
 have gt2:((K.push (.row true 0 1 (tok L s.p).cells)).push (.row true 0 1 (tok L s.p).cells)).get H1.n = .row true 0 1 (tok L s.p).cells:=by rw[Heap.get_push,if_neg (by simp;omega)];exact gt1
 by_cases c2:isP L s tTrue=true
 · rw[if_pos c2]at hx
   simp only[Option.some.injEq,Prod.mk.injEq]at hx
   obtain⟨rfl,rfl⟩:=hx
   have hp:s.p<L.length:=isP_lt c2
   rw[hT]at c2
   have fin:=plain (K.push (.row true 0 1 (tok L s.p).cells)) 2 (tok L s.p).at_ 1 (Same.push _ _ _) hp
   have hw:=hw (by omega) (by omega)
   rw[c2]at eT
   simp only[tTrue]at eT
   generalize tok L s.p=tk at *
   simp only[Tk.v,Tk.cells,z6,prs,PS.on,Int.natCast_add,Int.natCast_one]at *
   simp[Tryd.f123,e1]
   rw[← hK]
   simp[hbad,hc,gt,gz,c1,eT,hobj,hw,gt1,show H1.n<K.n by omega,show H.n<K.n by omega,show H.n<K.n+1 by omega,show ¬H1.n=r by omega,show ¬H.n=r by omega,show ¬r=H.n by omega,show ¬r=K.n by omega,show r<K.n by omega,show r<K.n+1 by omega,show ¬H.n=K.n by omega,show ¬H1.n=K.n by omega]
   have f:=fin _ rfl
   simp only[hc]at f
   exact f
 rw[if_neg c2]at hx
 have c2':isT (tok L s.p) tTrue=false:=by rw[← hT];simpa using c2
 rw[c2']at eT
 by_cases c3:isP L s tFalse=true
 · rw[if_pos c3]at hx
   simp only[Option.some.injEq,Prod.mk.injEq]at hx
   obtain⟨rfl,rfl⟩:=hx
   have hp:s.p<L.length:=isP_lt c3
   rw[hF]at c3
   have fin:=plain ((K.push (.row true 0 1 (tok L s.p).cells)).push (.row true 0 1 (tok L s.p).cells)) 2 (tok L s.p).at_ 0 ((Same.push _ _ _).then_push _) hp
   have hw:=hw (by omega) (by omega)
   rw[c3]at eF
   simp only[tTrue,tFalse]at eT eF
   generalize tok L s.p=tk at *
   simp only[Tk.v,Tk.cells,z6,prs,PS.on,Int.natCast_add,Int.natCast_one]at *
   simp[Tryd.f123,e1]
   rw[← hK]
   simp[hbad,hc,gt,gz,c1,eT,eF,hobj,hw,gt1,gt2,show H1.n<K.n by omega,show H.n<K.n by omega,show H.n<K.n+1+1 by omega,show ¬H1.n=r by omega,show ¬H.n=r by omega,show ¬r=H.n by omega,show ¬r=K.n by omega,show r<K.n by omega,show r<K.n+1+1 by omega,show ¬r=K.n+1 by omega,show ¬H.n=K.n by omega,show ¬H1.n=K.n by omega,show ¬H.n=K.n+1 by omega]
   have f:=fin _ rfl
   simp only[hc]at f
   exact f
 rw[if_neg c3]at hx
 have c3':isT (tok L s.p) tFalse=false:=by rw[← hF];simpa using c3
 rw[c3']at eF
 obtain⟨M,hM⟩:∃ M,M=(K.push (.row true 0 1 (tok L s.p).cells)).push (.row true 0 1 (tok L s.p).cells):=⟨_,rfl⟩
 have kM:Same (fun _=>False) K M:=by rw[hM];exact (Same.push _ _ _).then_push _
 have nM:M.n=K.n+1+1:=by rw[hM];rfl
 have gtM:M.get H1.n = .row true 0 1 (tok L s.p).cells:=kM.at gt (by simp) (fun h=>h)
 have gzM:M.get H.n = .row true 0 1 z6:=kM.at gz (by simp) (fun h=>h)
 have hRM:=hRP.same kM
 by_cases c4:(tok L s.p).kind=1
 · have c5:isP L s (b1 40)=false:=by rw[hP];unfold isT;simp[c4]
   rw[if_neg (by rw[c5];simp),if_pos c4]at hx
   obtain⟨o,K',e3,hR⟩:=name_reads hE (fun j hj=>hex j (by omega)) hRM hc h0l c4 hx
   obtain⟨cs,rfl,⟨a,b,c,d,y,b1,m1,c1',rfl⟩,g,hn,fin⟩:=RetX.out hE hr hl (kS.trans kM) hR
   simp only[tTrue,tFalse]at eT eF
   generalize tok L s.p=tk at *
   have hk1:decide (tk.kind=1)=true:=by simpa using c4
   simp only[Tk.v,Tk.cells,z6]at *
   simp[Tryd.f123,e1]
   rw[← hK]
   simp[hbad,hc,gt,gz,c1,hk1,eT,eF,gt1,gt2,show H1.n<K.n by omega,show ¬H1.n=K.n by omega,show ¬H1.n=K.n+1 by omega]
   rw[← hM]
   simp[e3,g,hn,gtM]
   exact fin
 by_cases c5:isP L s (b1 40)=true
 · rw[if_pos c5]at hx
   have c6:=c5
   rw[hP]at c6
   rw[c6]at eP
   have hMp:=hRM.same (Same.push (fun _=>False) _ (.row true 0 1 (tok L s.p).cells))
   have kMp:Same (fun _=>False) (H.push (.row true 0 1 z6)) (M.push (.row true 0 1 (tok L s.p).cells)):=(kS.trans kM).then_push _
   obtain⟨q,hq,hs'⟩:∃ q,(if (opensS L s (lv+1)).c≠0 then some (Ex.zero,opensS L s (lv+1))else xP L n (.row 1 (lv+1)) (opensS L s (lv+1)).on)=some (e,q)∧s'=mustS L q (b1 41):=by
    by_cases ho:(opensS L s (lv+1)).c≠0
    · rw[if_pos ho]at hx
      simp only[Option.some.injEq,Prod.mk.injEq]at hx
      obtain⟨rfl,rfl⟩:=hx
      refine⟨_,by rw[if_pos ho],?_⟩
      unfold mustS
      rw[if_neg (by unfold isP;simp[ho])]
      unfold faultS
      rw[if_neg ho]
    · rw[if_neg ho]at hx
      simp only[Option.map_eq_some_iff,Prod.mk.injEq]at hx
      obtain⟨⟨e1,q⟩,h1,rfl,rfl⟩:=hx
      exact⟨q,by rw[if_neg ho];exact h1,rfl⟩
   obtain⟨o,K',e3,hR⟩:=deeper_any hE (hex n (Nat.le_refl n)) hMp hc h0l (isP_lt c5) hq
   obtain⟨cs,rfl,⟨a,b,c,d,y,b1',m1,c1',rfl⟩,g,hn,fin⟩:=RetX.out hE hr hl kMp hR
   obtain⟨cs2,hcs,h6,kR,qR,rR⟩:=fin
   simp only[Out.val.injEq,Value.agg.injEq,Array.mk.injEq]at hcs
   subst hcs
   obtain⟨K2,e5,k5,q5⟩:=need_run hE qR (b1 41)
   have n5:=k5.n
   simp at n5
   have g5:K2.get H.n = .row true 0 1 [.int .i64 a,.int .i64 b,.int .i64 c,.int .i64 d,.string y,.slice b1' m1 c1']:=k5.at (Heap.get_set_self _ _ hn) (by simp) (by omega)
   have k7:Same (fun i=>i=H.n) K2 (K2.set H.n (.row true 0 1 [.int .i64 a,.int .i64 b,.int .i64 c,.int .i64 d,.string y,.slice b1' m1 c1'])):=Same.set (X:=fun i=>i=H.n) K2 (by omega) rfl _
   have same:K2.set H.n (.row true 0 1 [.int .i64 a,.int .i64 b,.int .i64 c,.int .i64 d,.string y,.slice b1' m1 c1'])=K2.set H.n (.row true 0 1 [.int .i64 a,.int .i64 b,.int .i64 c,.int .i64 d,.string y,.slice b1' m1 c1']):=rfl
   have fin:RetX H r lid L e s' lv (.val (.agg ⟨[.int .i64 a,.int .i64 b,.int .i64 c,.int .i64 d,.string y,.slice b1' m1 c1']⟩)) (K2.set H.n (.row true 0 1 [.int .i64 a,.int .i64 b,.int .i64 c,.int .i64 d,.string y,.slice b1' m1 c1'])):=by
    subst hs'
    refine⟨_,rfl,⟨_,_,_,_,_,_,_,_,rfl⟩,(kR.trans k5).then k7 (fun i hi => .inr (by omega)),q5.keep k7 (by omega) (by omega),fun hc3 => ?_⟩
    have hq0:q.c=0:=(mustS_le L q (b1 41)).code hc3
    have k8:Same (fun _=>False) K2 (K2.set H.n (.row true 0 1 [.int .i64 a,.int .i64 b,.int .i64 c,.int .i64 d,.string y,.slice b1' m1 c1'])):=⟨Nat.le_refl _,fun j hj _=>by
     rw[Heap.get_set _ _ _ (by omega)]
     split
     · rename_i hj2;rw[hj2];exact g5.symm
     · rfl⟩
    exact RE.move (k5.trans (Same.none k8)) (fun i hi _=>⟨hi,by omega⟩) _ _ (rR hq0)
   simp only[tTrue,tFalse,b1]at eT eF eP e5
   have hk1:decide ((tok L s.p).kind=1)=false:=by simpa using c4
   generalize tok L s.p=tk at *
   simp only[Tk.v,Tk.cells,z6]at *
   simp[Tryd.f123,e1]
   rw[← hK]
   simp[hbad,hc,gt,gz,c1,hk1,eT,eF,gt1,gt2,show H1.n<K.n by omega,show ¬H1.n=K.n by omega,show ¬H1.n=K.n+1 by omega,eP]
   rw[← hM]
   simp[e3,e5,g,hn,gtM,g5,show H.n<K2.n by omega]
   exact fin
 · rw[if_neg c5,if_neg c4]at hx
   simp only[Option.some.injEq,Prod.mk.injEq]at hx
   obtain⟨rfl,rfl⟩:=hx
   have c6:isT (tok L s.p) (b1 40)=false:=by rw[← hP];simpa using c5
   rw[c6]at eP
   have hMp:=hRM.same (Same.push (fun _=>False) _ (.row true 0 1 (tok L s.p).cells))
   have kMp:Same (fun _=>False) (H.push (.row true 0 1 z6)) (M.push (.row true 0 1 (tok L s.p).cells)):=(kS.trans kM).then_push _
   obtain⟨K2,e5,k5,h5⟩:=fail_run hE hMp 14 (tok L s.p).at_
   have kk:Same (·=r) (H.push (.row true 0 1 z6)) K2:=(Same.none kMp).trans k5
   have n5:=kk.n
   simp at n5
   have g5:K2.get H.n = .row true 0 1 z6:=kk.at (Heap.get_push_self _ _) (by simp) (by omega)
   have k7:Same (fun i=>i=H.n) K2 (K2.set H.n (.row true 0 1 z6)):=Same.set (X:=fun i=>i=H.n) K2 (by omega) rfl _
   have gtN:(M.push (.row true 0 1 (tok L s.p).cells)).get H1.n = .row true 0 1 (tok L s.p).cells:=by rw[Heap.get_push,if_neg (by omega)];exact gtM
   have fin:RetX H r lid L .zero (faultS L s 14) lv (.val (.agg ⟨z6⟩)) (K2.set H.n (.row true 0 1 z6)):=by
    unfold faultS
    rw[if_pos hc]
    rw[if_pos hc]at h5
    exact⟨_,rfl,six_z,((Same.push _ _ _).trans kk).then k7 (fun i hi => .inr (by omega)),(h5.keep k7 (by omega) (by omega)).q,fun h=>by simp at h⟩
   simp only[tTrue,tFalse,b1]at eT eF eP
   have hk1:decide ((tok L s.p).kind=1)=false:=by simpa using c4
   generalize tok L s.p=tk at *
   simp only[Tk.v,Tk.cells,z6]at *
   simp[Tryd.f123,e1]
   rw[← hK]
   simp[hbad,hc,gt,gz,c1,hk1,eT,eF,gt1,gt2,show H1.n<K.n by omega,show ¬H1.n=K.n by omega,show ¬H1.n=K.n+1 by omega,eP]
   rw[← hM]
   simp[e5,gtM,gtN,g5,show H1.n<M.n by omega,show ¬H1.n=M.n by omega,show H.n<K2.n by omega]
   exact fin
end
theorem pl_par0:planOf Tryd.prog (drawN Tryd.f13 0)=some [none,(some (0,1)),(some (0,1)),(some (0,1)),(some (0,1)),none,none,none]:=by decide +kernel
theorem pl_par1:planOf Tryd.prog (drawN Tryd.f13 1)=some [none,(some (0,1)),(some (0,1)),(some (0,1)),(some (0,1)),(some (0,1)),none,none,none]:=by decide +kernel
section
variable {E:Hooks} (hE:Plain E)
include hE
theorem fact_reads {L:List Tk}{n:Nat}(hfact:Reads E L 122 .fact n)(hex:∀ j,j≤n→Reads E L 42 (.row 1) j):Reads E L 122 .fact (n+1):=by
 intro H r lid s lv e s' h hc h0l hlv hx
 have hr:=h.lt
 have hl:=h.lid_lt
 have h0:=h.same (Same.push (fun _=>False) _ (.row true 0 1 z6))
 obtain⟨H1,e1,k1⟩:=tok_run hE h0
 have h1:=h0.same k1
 have e2:=is_run2 hE (tok L s.p) (b1 45) H1
 have h2:=h1.same (Same.push (fun _=>False) _ (.row true 0 1 (tok L s.p).cells))
 have kS:Same (fun _=>False) (H.push (.row true 0 1 z6)) (H1.push (.row true 0 1 (tok L s.p).cells)):=k1.then_push _
 have hm:isP L s (b1 45)=isT (tok L s.p) (b1 45):=isT_P hc _
 by_cases hi:isT (tok L s.p) (b1 45)=true
 · rw[xP,if_pos (by rw[hm];exact hi)]at hx
   obtain⟨o,K',e3,hR⟩:=un_reads hE 14 hfact h2 hc h0l (isT_lt hi) hx
   obtain⟨cs,rfl,⟨a,b,c,d,y,b1',m1,c1,rfl⟩,g,hn,fin⟩:=RetX.out hE hr hl kS hR
   rw[k_fact hE,callB,bodyOf]
   rw[hi]at e2
   simp only[b1]at e2
   generalize tok L s.p=tk at *
   simp only[Tk.v,Tk.cells,z6]at *
   simp[Tryd.f122,e1,e2,e3,g,hn]
   exact fin
 · have hi':isT (tok L s.p) (b1 45)=false:=by simpa using hi
   obtain⟨o,K',e3,hR⟩:=prim_reads hE hex h2 hc h0l (by rw[hm];exact hi') hx
   obtain⟨cs,rfl,⟨a,b,c,d,y,b1',m1,c1,rfl⟩,g,hn,fin⟩:=RetX.out hE hr hl kS hR
   rw[k_fact hE,callB,bodyOf]
   rw[hi']at e2
   simp only[b1]at e2
   generalize tok L s.p=tk at *
   simp only[Tk.v,Tk.cells,z6]at *
   simp[Tryd.f122,e1,e2,e3,g,hn]
   exact fin
theorem Reads.zero {L:List Tk}{f:FuncId}{cmd:Int→XC}:Reads E L f cmd 0:=by
 have _:=hE
 intro H r lid s lv e s' h hc h0l hlv hx
 cases hx
theorem all_reads (L:List Tk):∀ n,Reads E L 42 (.row 1) n∧Reads E L 78 (.row 2) n∧Reads E L 93 (.row 3) n∧Reads E L 108 (.row 4) n∧Reads E L 117 (.row 5) n ∧
  Reads E L 121 (.row 6) n∧Reads E L 122 .fact n:=by
 intro n
 induction n using Nat.strongRecOn with
 | _ n ih =>
  cases n with
  | zero=>exact⟨Reads.zero hE,Reads.zero hE,Reads.zero hE,Reads.zero hE,Reads.zero hE,Reads.zero hE,Reads.zero hE⟩
  | succ n =>
   have lt:∀ {j},j≤n→j<n+1:=fun h=>by omega
   refine⟨expr_reads hE fun j hj=>(ih j (lt hj)).2.1,conj_reads hE fun j hj=>(ih j (lt hj)).2.2.1,neg_reads hE (ih n (lt (Nat.le_refl n))).2.2.2.1 (ih n (lt (Nat.le_refl n))).2.2.1,rel_reads hE fun j hj=>(ih j (lt hj)).2.2.2.2.1,
    sum_reads hE fun j hj=>(ih j (lt hj)).2.2.2.2.2.1,term_reads hE fun j hj => ?_,fact_reads hE (ih n (lt (Nat.le_refl n))).2.2.2.2.2.2 fun j hj=>(ih j (lt hj)).1⟩
   intro H r lid s lv e s' h hc h0l hlv hx
   cases j with
   | zero=>cases hx
   | succ j =>
    rw[xP,if_neg (by simpa using hc),if_pos (by omega)]at hx
    exact (ih j (by omega)).2.2.2.2.2.2 H r lid s lv e s' h hc h0l hlv hx
def RetPar (H:Heap)(e:Ex)(s:PS)(o:Out)(H':Heap):Prop :=
 Same (fun _=>False) H H'∧if s.c=0 then ∃ cs,o = .val (.tuple #[.agg ⟨cs⟩,.int .i64 s.p,.agg ⟨[.int .i64 0,.int .i64 0]⟩])∧RE H' (fun i=>H.n≤i) e cs
  else o = .val (.tuple #[.agg ⟨z6⟩,.int .i64 0,.agg ⟨[.int .i64 s.c,.int .i64 s.a]⟩])
theorem par_walk {H:Heap}{lid tl:Nat}{L:List Tk}{p:Nat}{lv:Int}{n:Nat}{e:Ex}{s:PS}(hL:H.get lid = .row true tl 4 (flatT L))(hsm:L.length≤100000)(hp:p≤L.length)(h0:0≤lv)(h24:lv≤24)
  (hx:xP L n (.row 1 lv) ⟨p,0,0⟩=some (e,s)) :
  Gives ((run Tryd.prog E).call 13 [.slice (some ⟨lid,0,none⟩) L.length L.length,.int .i64 p,.int .i64 lv] H) (RetPar H e s):=by
 have hl:=Heap.lt_of_get hL (by simp)
 obtain⟨K,hK⟩:∃ K,K=((H.push (.row true 0 1 z6)).push (.row true 0 1 [.int .i64 0,.int .i64 0])).push (.row true 0 1 (prs lid L.length ⟨p,0,0⟩ lv)):=⟨_,rfl⟩
 have nK:K.n=H.n+1+1+1:=by rw[hK];rfl
 have kK:Same (fun _=>False) H K:=by rw[hK];exact ((Same.push _ _ _).then_push _).then_push _
 have hR:RP K (H.n+1+1) lid L ⟨p,0,0⟩ lv:=⟨by rw[hK];exact Heap.get_push_self _ _,⟨tl,kK.at hL (by simp) (fun h=>h)⟩,hsm,hp,by omega⟩
 obtain⟨o,K2,e2,cs,rfl,⟨a,b,c,d,y,b1',m1,c1,rfl⟩,k2,⟨s2,h2,hc2,ha2,hs2⟩,r2⟩:=(all_reads hE L n).1 K (H.n+1+1) lid ⟨p,0,0⟩ lv e s hR rfl h0 h24 hx
 have n2:=k2.n
 have g0:K2.get H.n = .row true 0 1 z6:=k2.at (by rw[hK,Heap.get_push,if_neg (by simp),Heap.get_push,if_neg (by simp),Heap.get_push_self]) (by simp) (by omega)
 have g1:K2.get (H.n+1) = .row true 0 1 [.int .i64 0,.int .i64 0]:=k2.at (by rw[hK,Heap.get_push,if_neg (by simp)];exact Heap.get_push_self _ _) (by simp) (by omega)
 have h3:=h2.same (Same.push (fun _=>False) K2 (.row true 0 1 [.int .i64 a,.int .i64 b,.int .i64 c,.int .i64 d,.string y,.slice b1' m1 c1]))
 have hbad:=bad_run2 hE h3
 have hobj:=h3.obj
 have hobj2:=h2.obj
 have k3:Same (fun i=>i=H.n+1+1) K (K2.push (.row true 0 1 [.int .i64 a,.int .i64 b,.int .i64 c,.int .i64 d,.string y,.slice b1' m1 c1])):=k2.then_push _
 have kEnd:∀ o1 o2,Same (fun _=>False) H (((K2.push (.row true 0 1 [.int .i64 a,.int .i64 b,.int .i64 c,.int .i64 d,.string y,.slice b1' m1 c1])).set H.n o1).set (H.n+1) o2):=fun o1 o2 =>
  ((kK.then k3 (fun i hi => .inr (by omega))).then_set (by simp;omega) (.inr (by omega)) o1).then_set (by simp;omega) (.inr (by omega)) o2
 rw[k_Parse hE,callB,bodyOf]
 unfold RetPar
 by_cases hc:s.c=0
 · have e3:=hs2 hc
   subst e3
   have kM:Same (fun i=>i=H.n∨i=H.n+1) K2 (((K2.push (.row true 0 1 [.int .i64 a,.int .i64 b,.int .i64 c,.int .i64 d,.string y,.slice b1' m1 c1])).set H.n (.row true 0 1 [.int .i64 a,.int .i64 b,.int .i64 c,.int .i64 d,.string y,.slice b1' m1 c1])).set (H.n+1) (.row true 0 1 [.int .i64 0,.int .i64 0])) :=
    ((Same.none (Same.push _ _ _)).then_set (by simp;omega) (.inl (.inl rfl)) _).then_set (by simp;omega) (.inl (.inr rfl)) _
   have fin:=RE.up (n:=H.n) (r2 hc) kM (by omega) (fun i hi=>by omega)
   simp only[hc,if_true]
   simp only[prs,z6,hc]at *
   simp[Tryd.f13]
   rw[← hK]
   simp[e2,hbad,g0,g1,show H.n<K2.n by omega]
   refine region_plan (by exact pl_par1) ?_
   simp[hobj,hobj2,g0,g1,show H.n<K2.n by omega,show H.n+1<K2.n by omega,show H.n+1+1<K2.n by omega,show ¬H.n=K2.n by omega,show ¬H.n+1=K2.n by omega,show ¬H.n+1+1=K2.n by omega]
   exact⟨kEnd _ _,fin⟩
 · have hc3:¬s2.c=0:=by rw[hc2];exact hc
   simp only[hc,if_false]
   simp only[prs,z6]at *
   simp[Tryd.f13]
   rw[← hK]
   simp[e2,hbad,hc3,g0,g1,show H.n<K2.n by omega]
   refine region_plan (by exact pl_par0) ?_
   simp[hobj,hobj2,g0,g1,show H.n<K2.n by omega,show H.n+1<K2.n by omega,show H.n+1+1<K2.n by omega,show ¬H.n=K2.n by omega,show ¬H.n+1=K2.n by omega,show ¬H.n+1+1=K2.n by omega]
   exact⟨kEnd _ _,hc2,ha2⟩
end
end Go.Vm.Ex
namespace Go.Vm
open Go.RowKit
attribute [local simp] gpe gpn spe gse gsn ne_r0 ne_l0 le_s0 ne_r1 ne_l1 lt_s1 le_s1 ne_r2 ne_l2 lt_s2 le_s2 ne_r3 ne_l3 lt_s3 le_s3 ne_r4 ne_l4 lt_s4 le_s4 ne_r5 ne_l5 lt_s5 le_s5 ne_r6 ne_l6 lt_s6 le_s6 ne_r7 ne_l7 lt_s7 le_s7
variable {P:Program}
structure TF (P:Program)(t:TypeId)(k:Nat):Prop where
 ok:∃ e b z,elemT P t=some e∧sizeT P e=some k∧bytesT P e=some b∧b≤1000∧zeroT P e=some z∧z.cells.toList.length=k∧k≠0∧P.underlying t=some (.slice e)
theorem app_one {t k:Nat}(T:TF P t k){H:Heap}{id tl n xid xt xe xc:Nat}{xo:Bool}{cs c:List Value}(hg:H.get id = .row true tl k cs)(hl:cs.length=n * k)(htl:tl≤1)(hc:c.length=k)(hx:H.get xid = .row xo xt xe c)(hn:n≤100000) :
  ∃ H',exAppend P [t,t] (.slice (some ⟨id,0,none⟩) n n) (.slice (some ⟨xid,0,none⟩) 1 xc) H=some (.slice (some ⟨H.n,0,none⟩) (n+1) (n+1),H')∧H'.get H.n = .row true 1 k (cs++c)∧H'.n=H.n+1∧Same (fun i=>i=id) H H':=by
 obtain⟨e,b,z,h1,h2,h3,h4,h5,h6,h7,h8⟩:=T.ok
 have hb:(n+1+200) * b≤140737488355328:=by
  have:(n+1+200) * b≤(100000+1+200) * 1000:=Nat.mul_le_mul (by omega) h4
  omega
 have hid:=Heap.lt_of_get hg (by simp)
 have htk:(cs.drop 0).take (n * k)=cs:=by rw[List.drop_zero];exact List.take_of_length_le (by omega)
 have hc0:cellsOf H k 1 (.slice (some ⟨xid,0,none⟩) 1 xc)=some c:=by
  simp[hx,hc]
  exact List.take_of_length_le (by omega)
 have hne:¬n+1≤n:=by omega
 rcases (show tl=0∨tl=1 by omega)with rfl | rfl
 · refine⟨H.push (.row true 1 k (cs++c)),?_,Heap.get_push_self _ _,rfl,Same.push _ _ _⟩
   simp only[exAppend,h1,h8,exAppendRow,h2,h3,h5,lenA,hc0,hg]
   simp[h7,h6,hb,show n+1≤140737488355328 by omega,hne,hl]
   rw[← hl,List.take_length]
 · refine⟨(H.set id .dead).push (.row true 1 k (cs++c)),?_,?_,rfl,(Same.set (X:=fun i=>i=id) H hid rfl _).trans (Same.push _ _ _)⟩
   · simp only[exAppend,h1,h8,exAppendRow,h2,h3,h5,lenA,hc0,hg]
     simp[h7,h6,hb,show n+1≤140737488355328 by omega,hne,hl]
     rw[← hl,List.take_length]
   · exact Heap.get_push_self (H.set id .dead) _
theorem app_nil {t k:Nat}(T:TF P t k){H:Heap}{xid xt xe xc:Nat}{xo:Bool}{c:List Value}(hc:c.length=k)(hx:H.get xid = .row xo xt xe c) :
  exAppend P [t,t] (.slice none 0 0) (.slice (some ⟨xid,0,none⟩) 1 xc) H=some (.slice (some ⟨H.n,0,none⟩) 1 1,H.push (.row true 1 k c)):=by
 obtain⟨e,b,z,h1,h2,h3,h4,h5,h6,h7,h8⟩:=T.ok
 have hb:(0+1+200) * b≤140737488355328:=by
  have:(0+1+200) * b≤(0+1+200) * 1000:=Nat.mul_le_mul (by omega) h4
  omega
 have hc0:cellsOf H k 1 (.slice (some ⟨xid,0,none⟩) 1 xc)=some c:=by
  simp[hx,hc]
  exact List.take_of_length_le (by omega)
 simp only[exAppend,h1,h8,exAppendRow,h2,h3,h5,lenA,hc0]
 simp[h7,h6]
 omega
end Go.Vm
namespace Go.Vm
variable {P:Program}
def idxA (P:Program)(ty:TypeId)(a b:Option Value)(H:Heap):Option (Out × Heap):=match a,b with
 | some (.agg cs), some (.int _ i) => match P.underlying ty with
  | some (.array len e) => match sizeT P e with
   | some n=>if 0≤i∧i<len then val1 (partA P e cs.toList (i.toNat * n)) H else none
   | none=>none
  | _=>none
 | some (.string s),some (.int k i)=>val1 (ifGround (pureRun P (Instr.index ty (.string s) (.int k i)))) H
 | _,_=>none
theorem op_index (call:CallA)(ty:TypeId)(x i:Operand)(t:List Value)(H:Heap):exOp P call (.index ty x i) t H=idxA P ty (evA t x) (evA t i) H:=by
 simp only[exOp];rfl
theorem idxA_str (ty:TypeId)(s:ByteArray)(k:IntKind)(i:Int)(H:Heap):idxA P ty (some (.string s)) (some (.int k i)) H=val1 (ifGround (pureRun P (Instr.index ty (.string s) (.int k i)))) H:=id rfl
end Go.Vm
namespace Go.Vm.Parse
open Go Go.Proofs
attribute [local simp] repCells_succ writeAt rd_Fr toList_beq gpe gpn spe gse gsn ne_r0 ne_l0 le_s0 ne_r1 ne_l1 lt_s1 le_s1 ne_r2 ne_l2 lt_s2 le_s2 ne_r3 ne_l3 lt_s3 le_s3 ne_r4 ne_l4 lt_s4 le_s4 ne_r5 ne_l5 lt_s5 le_s5 ne_r6 ne_l6 lt_s6 le_s6 ne_r7 ne_l7 lt_s7 le_s7
def letterB (b:UInt8):Bool:=decide (97≤b.toNat∧b.toNat≤122)
def digitB (b:UInt8):Bool:=decide (48≤b.toNat∧b.toNat≤57)
def wordsL:List ByteArray:=[⟨#[112,114,111,103,114,97,109]⟩,⟨#[114,101,115,111,117,114,99,101]⟩,⟨#[115,101,109,97,112,104,111,114,101]⟩,⟨#[115,104,97,114,101,100]⟩,⟨#[118,97,114]⟩,⟨#[112,114,111,99,101,100,117,114,101]⟩,⟨#[99,108,97,105,109,115]⟩,⟨#[98,101,103,105,110]⟩,⟨#[101,110,100]⟩,⟨#[105,102]⟩,⟨#[116,104,101,110]⟩,⟨#[101,108,115,101]⟩,⟨#[102,105]⟩,⟨#[119,104,105,108,101]⟩,⟨#[100,111]⟩,⟨#[111,100]⟩,⟨#[99,111,98,101,103,105,110]⟩,⟨#[99,111,101,110,100]⟩,⟨#[114,101,103,105,111,110]⟩,⟨#[119,104,101,110]⟩,⟨#[114,101,113,117,101,115,116]⟩,⟨#[114,101,108,101,97,115,101]⟩,⟨#[119,114,105,116,101]⟩,⟨#[114,101,97,100]⟩,⟨#[115,107,105,112]⟩,⟨#[116,114,117,101]⟩,⟨#[102,97,108,115,101]⟩,⟨#[97,110,100]⟩,⟨#[111,114]⟩,⟨#[110,111,116]⟩,⟨#[80]⟩,⟨#[86]⟩]
def isWord (x:ByteArray):Bool:=wordsL.any fun w=>decide (w=x)
theorem b_words:exBuild Tryd.prog 96 [(0,Value.string { data := #[112,114,111,103,114,97,109] }),(1,Value.string { data := #[114,101,115,111,117,114,99,101] }),(2,Value.string { data := #[115,101,109,97,112,104,111,114,101] }),(3,Value.string { data := #[115,104,97,114,101,100] }),(4,Value.string { data := #[118,97,114] }),(5,Value.string { data := #[112,114,111,99,101,100,117,114,101] }),(6,Value.string { data := #[99,108,97,105,109,115] }),(7,Value.string { data := #[98,101,103,105,110] }),(8,Value.string { data := #[101,110,100] }),(9,Value.string { data := #[105,102] }),(10,Value.string { data := #[116,104,101,110] }),(11,Value.string { data := #[101,108,115,101] }),(12,Value.string { data := #[102,105] }),(13,Value.string { data := #[119,104,105,108,101] }),(14,Value.string { data := #[100,111] }),(15,Value.string { data := #[111,100] }),(16,Value.string { data := #[99,111,98,101,103,105,110] }),(17,Value.string { data := #[99,111,101,110,100] }),(18,Value.string { data := #[114,101,103,105,111,110] }),(19,Value.string { data := #[119,104,101,110] }),(20,Value.string { data := #[114,101,113,117,101,115,116] }),(21,Value.string { data := #[114,101,108,101,97,115,101] }),(22,Value.string { data := #[119,114,105,116,101] }),(23,Value.string { data := #[114,101,97,100] }),(24,Value.string { data := #[115,107,105,112] }),(25,Value.string { data := #[116,114,117,101] }),(26,Value.string { data := #[102,97,108,115,101] }),(27,Value.string { data := #[97,110,100] }),(28,Value.string { data := #[111,114] }),(29,Value.string { data := #[110,111,116] }),(30,Value.string { data := #[80] }),(31,Value.string { data := #[86] })]=some (.agg ⟨wordsL.map fun x => .string x⟩):=by kernel_rfl
def numFrom:List UInt8→Int→Option Int
 | [],n=>some n
 | b :: bs,n=>if (9223372036854775807 - ((b.toNat:Int) - 48)) / 10<n then none else numFrom bs (10 * n+((b.toNat:Int) - 48))
def oneL:List UInt8:=[59,44,40,41,91,93,43,45,42,47,37,61,60,62,46]
def oneS (b:UInt8):Bool:=oneL.any fun c=>decide (c=b)
def twoS (x:ByteArray):Bool:=decide (x=⟨#[58,61]⟩) || (decide (x=⟨#[60,62]⟩) || (decide (x=⟨#[60,61]⟩) || (decide (x=⟨#[62,61]⟩) || decide (x=⟨#[47,47]⟩))))
def signP:List UInt8→Nat
 | []=>0
 | [a]=>if oneS a=true then 1 else 0
 | a :: b :: _=>if twoS ⟨#[a,b]⟩=true then 2 else if oneS a=true then 1 else 0
def NumI (l:List UInt8)(H:Heap)(m:Nat)(t:List Value)(H':Heap):Prop :=
 ∃ i:Nat,∃ n:Int,i+m=l.length∧rd t 5 = .int .i64 i∧rd t 4 = .int .i64 n∧0≤n∧n≤9223372036854775807∧H'=H∧numFrom l 0=numFrom (l.drop i) n
def byteC (b:UInt8):Value := .int .u8 (b.toNat:Int)
def BS (H:Heap)(sid off cap:Nat)(l:List UInt8):Prop:=∃ own tl es cs,H.get sid = .row own tl es cs∧off+l.length≤cs.length∧l.length≤cap∧(cs.drop off).take l.length=l.map byteC
section
variable {E:Hooks} (hE:Plain E)
include hE
theorem letter_run (b:UInt8)(H:Heap):(run Tryd.prog E).call 14 [byteC b] H=some (.val (.bool (letterB b)),H):=by
 have key:Gives ((run Tryd.prog E).call 14 [byteC b] H) fun o H'=>o = .val (.bool (letterB b))∧H'=H:=by
  rw[c_letter hE,callB,bodyOf]
  unfold letterB byteC
  by_cases h1:(97:Int)≤b.toNat
  · simp[Tryd.f14,h1,show 97≤b.toNat by omega]
    omega
  · simp[Tryd.f14,h1,show ¬97≤b.toNat by omega]
 obtain⟨o,H',e,rfl,rfl⟩:=key
 exact e
theorem digit_run (b:UInt8)(H:Heap):(run Tryd.prog E).call 15 [byteC b] H=some (.val (.bool (digitB b)),H):=by
 have key:Gives ((run Tryd.prog E).call 15 [byteC b] H) fun o H'=>o = .val (.bool (digitB b))∧H'=H:=by
  rw[c_digit hE,callB,bodyOf]
  unfold digitB byteC
  by_cases h1:(48:Int)≤b.toNat
  · simp[Tryd.f15,h1,show 48≤b.toNat by omega]
    omega
  · simp[Tryd.f15,h1,show ¬48≤b.toNat by omega]
 obtain⟨o,H',e,rfl,rfl⟩:=key
 exact e
theorem word_run (x:ByteArray)(H:Heap):∃ H',(run Tryd.prog E).call 16 [.string x] H=some (.val (.bool (isWord x)),H')∧Same (fun _=>False) H H':=by
 suffices key:Gives ((run Tryd.prog E).call 16 [.string x] H) fun o H'=>o = .val (.bool (isWord x))∧Same (fun _=>False) H H' by
  obtain⟨o,H',e,rfl,k⟩:=key
  exact⟨H',e,k⟩
 rw[c_Word hE,callB,bodyOf]
 have hlen:wordsL.length=32:=rfl
 simp[-build_eq,b_words,Tryd.f16,hlen]
 have fin:Same (fun _=>False) H (H.push (.row true 0 1 (wordsL.map fun x => .string x))):=Same.push _ _ _
 refine loop_wp (fun m t H'=>∃ i:Nat,i+m=32∧rd t 4 = .int .i64 i∧H'=H.push (.row true 0 1 (wordsL.map fun x => .string x))∧isWord x=(wordsL.drop i).any fun w=>decide (w=x)) 32 ?_ ?_
 · exact⟨0,rfl,by simp,rfl,rfl⟩
 rintro m t H' hk ⟨i,hi,g4,rfl,ho⟩
 have ht:t.length=15:=hk.1.trans (by simp[len_Bs])
 have hh:=hk.all [0,3] (by decide +kernel)
 simp at hh
 obtain⟨a0,a3⟩:=hh
 by_cases hm:m=0
 · subst hm
   obtain rfl:i=32:=by omega
   have h0:((wordsL.drop 32).any fun w=>decide (w=x))=false:=rfl
   rw[ho,h0]
   simp[ht,g4]
   exact fin
 · have hi13:i<wordsL.length:=by omega
   have hi:i<32:=by omega
   have hw:=wrap64 ((i:Int)+1) (by omega) (by omega)
   have hq:=List.getElem?_eq_getElem hi13
   rw[ho,List.drop_eq_getElem_cons hi13,List.any_cons]
   generalize wordsL[i]=q at hq ⊢
   by_cases c1:q=x
   · simp[ht,g4,show (i:Int)<32 by omega,a0,a3,hi,hq,c1]
     exact fin
   · simp[ht,g4,show (i:Int)<32 by omega,a0,a3,hi,hq,c1,hw]
     exact⟨m - 1,by omega,i+1,by omega,by simp,rfl⟩
omit hE in
theorem conv_u8 (x:Int)(H:Heap):exConvert Tryd.prog 5 3 (.int .u8 x) H=some (.int .i64 (IntKind.i64.wrap x),H):=rfl
omit hE in
theorem bin_quo10 (x y:Operand)(a:Int):exBin Tryd.prog .quo 3 x y (.int .i64 a) (.int .i64 10)=some (.int .i64 (IntKind.i64.wrap (a.tdiv 10))):=rfl
omit hE in
theorem conv_str {H:Heap}{sid off cap:Nat}{l:List UInt8}(h:BS H sid off cap l)(n:Nat)(hn:n=l.length):exConvert Tryd.prog 23 9 (.slice (some ⟨sid,off,none⟩) n cap) H=some (.string ⟨⟨l⟩⟩,H):=by
 subst hn
 obtain⟨own,tl,es,cs,h1,h2,h3,h4⟩:=h
 have hb:∀ l:List UInt8,byteList (l.map byteC)=some l:=by
  intro l
  induction l with
  | nil=>rfl
  | cons b bs ih =>
   simp only[List.map_cons,byteC,byteList]at ih ⊢
   rw[ih]
   simp
 have e:exConvert Tryd.prog 23 9 (.slice (some ⟨sid,off,none⟩) l.length cap) H=(match cellsOf H 1 l.length (.slice (some ⟨sid,off,none⟩) l.length cap)with | some cs=>(byteList cs).map fun l=>(.string ⟨⟨l⟩⟩,H) | none=>none):=rfl
 rw[e]
 simp[h1,h2,h4,hb]
omit hE in
theorem BS.cut {H:Heap}{sid off cap:Nat}{l:List UInt8}(h:BS H sid off cap l)(a b:Nat)(hab:a≤b)(hb:b≤l.length)(ha:a<cap) :
  cutA sid off l.length cap 1 (some (.int .i64 a)) (some (.int .i64 b)) none H=some (.slice (some ⟨sid,off+a,none⟩) (b - a) (cap - a),H)∧BS H sid (off+a) (cap - a) ((l.drop a).take (b - a)):=by
 obtain⟨own,tl,es,cs,h1,h2,h3,h4⟩:=h
 refine⟨?_,own,tl,es,cs,h1,?_,?_,?_⟩
 · simp only[cutA,boundOf,h1]
   rw[if_pos (by omega)]
   cases tl with
   | zero=>simp[show ¬(cap:Int)=a by omega]
   | succ tl=>simp only[];rw[if_neg (by omega)];simp
 · simp;omega
 · simp;omega
 · have:=congrArg (fun x=>(x.drop a).take (b - a)) h4
   simp only[List.drop_take,List.take_take,List.drop_drop]at this
   simp only[List.length_take,List.length_drop,List.map_take,List.map_drop]
   rw[show min (b - a) (l.length - a)=b - a by omega]at this ⊢
   rw[← this]
omit hE in
theorem BS.cell {H:Heap}{sid off cap:Nat}{l:List UInt8}(h:BS H sid off cap l){i:Nat}(hi:i<l.length):∃ own tl es cs,H.get sid = .row own tl es cs∧cs[off+i]? = some (byteC l[i]):=by
 obtain⟨own,tl,es,cs,h1,h2,h3,h4⟩:=h
 refine⟨own,tl,es,cs,h1,?_⟩
 have:((cs.drop off).take l.length)[i]? = (l.map byteC)[i]? := by rw[h4]
 rw[List.getElem?_take_of_lt hi,List.getElem?_drop]at this
 rw[this]
 simp[hi]
theorem number_run {H:Heap}{sid off cap:Nat}{l:List UInt8}(h:BS H sid off cap l)(hd:∀ b∈l,digitB b=true)(hlen:l.length≤100000) :
  (run Tryd.prog E).call 17 [.slice (some ⟨sid,off,none⟩) l.length cap] H=some (.val (match numFrom l 0 with | some n => .tuple #[.int .i64 n,.bool true] | none => .tuple #[.int .i64 0,.bool false]),H):=by
 have key:Gives ((run Tryd.prog E).call 17 [.slice (some ⟨sid,off,none⟩) l.length cap] H) fun o H'=>o = .val (match numFrom l 0 with | some n => .tuple #[.int .i64 n,.bool true] | none => .tuple #[.int .i64 0,.bool false])∧H'=H:=by
  rw[c_number hE,callB,bodyOf]
  simp[Tryd.f17]
  refine loop_wp (NumI l H) l.length ?_ ?_
  · exact⟨0,0,by omega,by simp,by simp,by omega,by omega,rfl,rfl⟩
  rintro m t H' hk ⟨i,n,hi,g5,g4,hn0,hn1,rfl,ho⟩
  have ht:t.length=29:=hk.1.trans (by simp[len_Bs])
  have hh:=hk.all [0] (by decide +kernel)
  simp at hh
  by_cases hm:m=0
  · subst hm
    obtain rfl:i=l.length:=by omega
    rw[ho,List.drop_length]
    simp[ht,g5,g4,hh,numFrom]
  · have hil:i<l.length:=by omega
    obtain⟨own,tl,es,cs,h1,h2⟩:=h.cell hil
    have hb:=hd l[i] (List.getElem_mem hil)
    unfold digitB at hb
    simp only[decide_eq_true_eq]at hb
    have ho2:=ho
    rw[List.drop_eq_getElem_cons hil,numFrom]at ho2
    rw[ho2]
    generalize l[i]=b at hb h2 ho2 ⊢
    simp only[byteC]at h2
    have hw:=wrap64 ((i:Int)+1) (by omega) (by omega)
    have hw8:IntKind.u8.wrap ((b.toNat:Int) - 48)=(b.toNat:Int) - 48:=by
     unfold IntKind.wrap
     simp[IntKind.bits,IntKind.signed]
     omega
    have hwd:=wrap64 ((b.toNat:Int) - 48) (by omega) (by omega)
    have hwm:=wrap64 (9223372036854775807 - ((b.toNat:Int) - 48)) (by omega) (by omega)
    have hq:(9223372036854775807 - ((b.toNat:Int) - 48)).tdiv 10=(9223372036854775807 - ((b.toNat:Int) - 48)) / 10:=Int.tdiv_eq_ediv_of_nonneg (by omega)
    have hwq:=wrap64 ((9223372036854775807 - ((b.toNat:Int) - 48)) / 10) (by omega) (by omega)
    by_cases hbig:(9223372036854775807 - ((b.toNat:Int) - 48)) / 10<n
    · rw[if_pos hbig]
      simp[ht,g5,g4,hh,show (i:Int)<l.length by omega,hil,h1,h2,hw8,conv_u8,hwd,hwm,bin_quo10,hq,hwq,hbig]
    · rw[if_neg hbig]
      have hw10:=wrap64 (10 * n) (by omega) (by omega)
      have hwn:=wrap64 (10 * n+((b.toNat:Int) - 48)) (by omega) (by omega)
      simp[ht,g5,g4,hh,show (i:Int)<l.length by omega,hil,h1,h2,hw8,conv_u8,hwd,hwm,bin_quo10,hq,hwq,hbig,hw10,hwn,hw]
      refine⟨m - 1,by omega,i+1,10 * n+((b.toNat:Int) - 48),by omega,by simp[ht],by simp[ht],by omega,by omega,rfl,?_⟩
      rw[ho2,if_neg hbig]
 obtain⟨o,H',e,rfl,rfl⟩:=key
 exact e
omit hE in
theorem BS.head {H:Heap}{sid off cap:Nat}{l:List UInt8}(h:BS H sid off cap l)(b:Nat)(hb:b≤l.length)(h0:0<l.length) :
  cutA sid off l.length cap 1 none (some (.int .i64 b)) none H=some (.slice (some ⟨sid,off,none⟩) b cap,H)∧BS H sid off cap (l.take b):=by
 have hc:=h
 obtain⟨own,tl,es,cs,h1,h2,h3,h4⟩:=h
 refine⟨?_,own,tl,es,cs,h1,?_,?_,?_⟩
 · simp only[cutA,boundOf,h1]
   rw[if_pos (by omega)]
   cases tl with
   | zero=>simp
   | succ tl=>simp only[];rw[if_neg (by omega)];simp
 · simp;omega
 · simp;omega
 · have:=congrArg (fun x=>x.take b) h4
   simp only[List.take_take]at this
   simp only[List.length_take,List.map_take]
   exact this
omit hE in
theorem BS.tail {H:Heap}{sid off cap:Nat}{l:List UInt8}(h:BS H sid off cap l)(a:Nat)(ha:a<l.length) :
  cutA sid off l.length cap 1 (some (.int .i64 a)) none none H=some (.slice (some ⟨sid,off+a,none⟩) (l.length - a) (cap - a),H)∧BS H sid (off+a) (cap - a) (l.drop a):=by
 have hcap:l.length≤cap:=by obtain⟨_,_,_,_,_,_,h3,_⟩:=h;exact h3
 obtain⟨h1,h2⟩:=h.cut a l.length (by omega) (Nat.le_refl _) (by omega)
 refine⟨?_,?_⟩
 · rw[← h1];simp only[cutA,boundOf]
 · rw[List.take_of_length_le (by simp)]at h2;exact h2
omit hE in
theorem idx_one:∀ (i:Nat)(h:i<oneL.length),ifGround (pureRun Tryd.prog (Instr.index 9 (.string ⟨#[59,44,40,41,91,93,43,45,42,47,37,61,60,62,46]⟩) (.int .i64 i)))=some (byteC oneL[i])
 | 0,_=>rfl
 | 1,_=>rfl
 | 2,_=>rfl
 | 3,_=>rfl
 | 4,_=>rfl
 | 5,_=>rfl
 | 6,_=>rfl
 | 7,_=>rfl
 | 8,_=>rfl
 | 9,_=>rfl
 | 10,_=>rfl
 | 11,_=>rfl
 | 12,_=>rfl
 | 13,_=>rfl
 | 14,_=>rfl
 | n+15,h=>absurd h (by simp[oneL])
omit hE in
theorem q_sign0:quiet Tryd.prog (drawN Tryd.f18 0)=true:=by decide +kernel
theorem sign_run {H:Heap}{sid off cap:Nat}{l:List UInt8}(h:BS H sid off cap l)(h0:0<l.length)(hlen:l.length≤100000) :
  (run Tryd.prog E).call 18 [.slice (some ⟨sid,off,none⟩) l.length cap] H=some (.val (.int .i64 (signP l)),H):=by
 have key:Gives ((run Tryd.prog E).call 18 [.slice (some ⟨sid,off,none⟩) l.length cap] H) fun o H'=>o = .val (.int .i64 (signP l))∧H'=H:=by
  obtain⟨own,tl,es,cs,h1,h2⟩:=h.cell h0
  rw[c_sign hE,callB,bodyOf]
  cases l with
  | nil=>simp at h0
  | cons a l =>
  simp only[List.getElem_cons_zero,byteC]at h2
  have hol:oneL.length=15:=rfl
  have h2':cs[off]? = some (.int .u8 a.toNat):=h2
  cases l with
  | nil =>
   simp[Tryd.f18,signP]
   refine loop_wp (fun m t H'=>∃ i:Nat,i+m=15∧rd t 5 = .int .i64 i∧H'=H∧oneS a=(oneL.drop i).any fun c=>decide (c=a)) 15 ?_ ?_
   · exact⟨0,rfl,by simp,rfl,rfl⟩
   rintro m t H' hk ⟨i,hi,g5,rfl,ho⟩
   have ht:t.length=43:=hk.1.trans (by simp[len_Bs])
   have hh:=hk.all [0,4] (by decide +kernel)
   simp at hh
   obtain⟨a0,a4⟩:=hh
   by_cases hm:m=0
   · subst hm
     obtain rfl:i=15:=by omega
     have h0:((oneL.drop 15).any fun c=>decide (c=a))=false:=rfl
     rw[ho,h0]
     simp[ht,g5,a4,ByteArray.size]
   · have hi13:i<oneL.length:=by omega
     have hi15:i<15:=by omega
     have hw:=wrap64 ((i:Int)+1) (by omega) (by omega)
     have hq:=idx_one i hi13
     have ho2:=ho
     rw[List.drop_eq_getElem_cons hi13,List.any_cons]at ho2
     generalize oneL[i]=q at hq ho2
     simp only[byteC]at hq
     by_cases c1:q=a
     · rw[ho2]
       simp[ht,g5,a4,ByteArray.size,show (i:Int)<15 by omega]
       refine region_quiet (by exact q_sign0) ?_
       simp[op_index,idxA_str,ht,g5,a4,a0,hq,h1,h2',c1]
     · have c2:¬(q.toNat:Int)=a.toNat:=fun e=>c1 (UInt8.toNat_inj.mp (by omega))
       have c3:¬q.toNat=a.toNat:=fun e=>c1 (UInt8.toNat_inj.mp e)
       simp[ht,g5,a4,ByteArray.size,show (i:Int)<15 by omega]
       refine region_quiet (by exact q_sign0) ?_
       simp[op_index,idxA_str,ht,g5,a4,a0,hq,h1,h2',c2,c3,hw]
       refine⟨m - 1,by omega,i+1,by omega,by simp[ht],?_⟩
       rw[ho2]
       simp[c1]
  | cons b l =>
   obtain⟨hc1,hc2⟩:=h.head 2 (by simp) (by simp)
   simp only[List.take_succ_cons,List.take_zero,List.length_cons]at hc1 hc2
   have hcs:=conv_str hc2 2 rfl
   rw[show ((2:Nat):Int)=2 from rfl]at hc1
   have hl1:(1:Int)<l.length+1+1:=by omega
   rw[signP]
   generalize (⟨#[a,b]⟩:ByteArray)=x at hcs ⊢
   by_cases c2:twoS x=true
   · rw[if_pos c2]
     unfold twoS at c2
     simp only[Bool.or_eq_true,decide_eq_true_eq]at c2
     rcases c2 with rfl | rfl | rfl | rfl | rfl
     all_goals simp[Tryd.f18,hc1,hcs,hl1]
   · rw[if_neg c2]
     unfold twoS at c2
     simp only[Bool.or_eq_true,decide_eq_true_eq,not_or]at c2
     obtain⟨d1,d2,d3,d4,d5⟩:=c2
     have hl2:(0:Int)<l.length+1+1:=by omega
     have nb:∀ y:ByteArray,¬x=y→(x.toList == y.data.toList)=false:=fun y hy=>by
      have:=toList_beq x y
      rw[decide_eq_false hy,ByteArray.toList_eq y]at this
      exact this
     have d1:=nb _ d1
     have d2:=nb _ d2
     have d3:=nb _ d3
     have d4:=nb _ d4
     have d5:=nb _ d5
     simp only[]at d1 d2 d3 d4 d5
     simp[Tryd.f18,hc1,hcs,hl1,d1,d2,d3,d4,d5]
     refine loop_wp (fun m t H'=>∃ i:Nat,i+m=15∧rd t 5 = .int .i64 i∧H'=H∧oneS a=(oneL.drop i).any fun c=>decide (c=a)) 15 ?_ ?_
     · exact⟨0,rfl,by simp,rfl,rfl⟩
     rintro m t H' hk ⟨i,hi,g5,rfl,ho⟩
     have ht:t.length=43:=hk.1.trans (by simp[len_Bs])
     have hh:=hk.all [0,4] (by decide +kernel)
     simp at hh
     obtain⟨a0,a4⟩:=hh
     by_cases hm:m=0
     · subst hm
       obtain rfl:i=15:=by omega
       have h0:((oneL.drop 15).any fun c=>decide (c=a))=false:=rfl
       rw[ho,h0]
       simp[ht,g5,a4,ByteArray.size]
     · have hi13:i<oneL.length:=by omega
       have hi15:i<15:=by omega
       have hw:=wrap64 ((i:Int)+1) (by omega) (by omega)
       have hq:=idx_one i hi13
       have ho2:=ho
       rw[List.drop_eq_getElem_cons hi13,List.any_cons]at ho2
       generalize oneL[i]=q at hq ho2
       simp only[byteC]at hq
       by_cases c1:q=a
       · rw[ho2]
         simp[ht,g5,a4,ByteArray.size,show (i:Int)<15 by omega]
         refine region_quiet (by exact q_sign0) ?_
         simp[op_index,idxA_str,hl2,ht,g5,a4,a0,hq,h1,h2',c1]
       · have c2:¬(q.toNat:Int)=a.toNat:=fun e=>c1 (UInt8.toNat_inj.mp (by omega))
         have c3:¬q.toNat=a.toNat:=fun e=>c1 (UInt8.toNat_inj.mp e)
         simp[ht,g5,a4,ByteArray.size,show (i:Int)<15 by omega]
         refine region_quiet (by exact q_sign0) ?_
         simp[op_index,idxA_str,hl2,ht,g5,a4,a0,hq,h1,h2',c2,c3,hw]
         refine⟨m - 1,by omega,i+1,by omega,by simp[ht],?_⟩
         rw[ho2]
         simp[c1]
 obtain⟨o,H',e,rfl,rfl⟩:=key
 exact e
end
def spanTo (p:UInt8→Bool)(src:List UInt8)(to:Nat):Nat:=to+((src.drop to).takeWhile p).length
theorem spanTo_step {p:UInt8→Bool}{src:List UInt8}{to:Nat}(h:to<src.length)(hp:p src[to]=true):spanTo p src to=spanTo p src (to+1):=by
 unfold spanTo
 rw[List.drop_eq_getElem_cons h,List.takeWhile_cons,if_pos hp,List.length_cons];omega
theorem spanTo_stop {p:UInt8→Bool}{src:List UInt8}{to:Nat}(h:to<src.length)(hp:p src[to]=false):spanTo p src to=to:=by
 unfold spanTo
 rw[List.drop_eq_getElem_cons h,List.takeWhile_cons,if_neg (by rw[hp];simp)];rfl
theorem spanTo_end (p:UInt8→Bool)(src:List UInt8):spanTo p src src.length=src.length:=by
 unfold spanTo
 rw[List.drop_length];rfl
theorem spanTo_le {p:UInt8→Bool}{src:List UInt8}{to:Nat}(h:to≤src.length):to≤spanTo p src to∧spanTo p src to≤src.length:=by
 unfold spanTo
 have:=(List.takeWhile_prefix p (l:=src.drop to)).length_le
 simp at this
 omega
def nameB (b:UInt8):Bool:=letterB b || digitB b
def cutB (src:List UInt8)(a b:Nat):ByteArray:=⟨⟨(src.drop a).take (b - a)⟩⟩
inductive LS where
 | more (to:Nat) (t:Option Tk)
 | bad (c a:Int)
def lexStep (src:List UInt8)(a:Nat)(c:UInt8):LS :=
 if c.toNat=32∨c.toNat=9∨c.toNat=10∨c.toNat=13 then .more (a+1) none
 else if c.toNat=123 then
  if spanTo (fun b => !decide (b.toNat=125)) src (a+1)=src.length then .bad 11 a else .more (spanTo (fun b => !decide (b.toNat=125)) src (a+1)+1) none
 else if c.toNat=80∨c.toNat=86 then .more (a+1) (some ⟨3,a,0,cutB src a (a+1)⟩)
 else if letterB c=true then
  if isWord (cutB src a (spanTo nameB src (a+1)))=true then .more (spanTo nameB src (a+1)) (some ⟨3,a,0,cutB src a (spanTo nameB src (a+1))⟩)
  else if 12<spanTo nameB src (a+1) - a then .bad 12 a
  else .more (spanTo nameB src (a+1)) (some ⟨1,a,0,cutB src a (spanTo nameB src (a+1))⟩)
 else if digitB c=true then
  match numFrom ((src.drop a).take (spanTo digitB src (a+1) - a)) 0 with
  | none => .bad 13 a
  | some n => .more (spanTo digitB src (a+1)) (some ⟨2,a,n,ByteArray.empty⟩)
 else if signP (src.drop a)=0 then .bad 11 a
 else .more (a+signP (src.drop a)) (some ⟨4,a,0,cutB src a (a+signP (src.drop a))⟩)
def lexFrom (src:List UInt8):Nat→Nat→List Tk→Option (List Tk ⊕ (Int × Int))
 | 0,_,_=>none
 | n + 1, a, out =>
  if h:a<src.length then
   match lexStep src a src[a]with
   | .bad c p=>some (.inr (c,p))
   | .more to none=>lexFrom src n to out
   | .more to (some t)=>lexFrom src n to (out++[t])
  else some (.inl (out++[⟨5,src.length,0,ByteArray.empty⟩]))
def RetL (H:Heap)(res:List Tk ⊕ (Int × Int))(o:Out)(H':Heap):Prop :=
 Same (fun _=>False) H H'∧match res with
 | .inr (c,p)=>o = .val (.tuple #[.slice none 0 0,.agg #[.int .i64 c,.int .i64 p]])
 | .inl l=>∃ id,H.n≤id∧o = .val (.tuple #[.slice (some ⟨id,0,none⟩) l.length l.length,.agg #[.int .i64 0,.int .i64 0]])∧∃ tl,tl≤1∧H'.get id = .row true tl 4 (flatT l)
theorem tf_tok:TF Tryd.prog 25 4:=⟨_,_,_,by simp,by simp,by simp;rfl,by omega,by simp;rfl,rfl,by omega,rfl⟩
theorem span_all {p:UInt8→Bool}{src:List UInt8}{a:Nat}(h:a<src.length)(hp:p src[a]=true):∀ x∈(src.drop a).take (spanTo p src (a+1) - a),p x=true:=by
 have e:spanTo p src (a+1) - a=((src.drop a).takeWhile p).length:=by
  unfold spanTo
  rw[List.drop_eq_getElem_cons h,List.takeWhile_cons,if_pos hp,List.length_cons];omega
 rw[e]
 intro x hx
 have hpre:=List.takeWhile_prefix p (l:=src.drop a)
 rw[← List.prefix_iff_eq_take.1 hpre]at hx
 exact List.all_eq_true.1 (List.all_takeWhile (p:=p) (l:=src.drop a)) x hx
theorem signP_le:∀ l:List UInt8,signP l≤l.length
 | []=>by simp[signP]
 | [a]=>by simp only[signP];split<;>simp
 | a :: b :: l=>by simp only[signP];split;(simp);split<;>simp
theorem flatT_append:∀ (l:List Tk)(t:Tk),flatT (l++[t])=flatT l++t.cells
 | [],t=>by simp[flatT]
 | x :: l,t=>by simp[flatT,flatT_append l t]
theorem Same.any {X:Nat→Prop}{H H':Heap}(k:Same X H H')(A:Heap)(h:∀ i,X i→A.n≤i)(k0:Same (fun _=>False) A H):Same (fun _=>False) A H':=k0.then k fun i hi => .inr (h i hi)
theorem BS.same {X:Nat→Prop}{H H':Heap}{sid off cap:Nat}{l:List UInt8}(h:BS H sid off cap l)(k:Same X H H')(hx:¬X sid):BS H' sid off cap l:=by
 obtain⟨own,tl,es,cs,h1,h2⟩:=h
 exact⟨own,tl,es,cs,k.at h1 (by simp) hx,h2⟩
def LexI (src:List UInt8)(H:Heap)(res:List Tk ⊕ (Int × Int))(n m:Nat)(t:List Value)(H':Heap):Prop :=
 m≤n∧∃ (a:Nat) (out:List Tk) (id tl:Nat),lexFrom src m a out=some res∧rd t 5 = .int .i64 a∧rd t 4 = .slice (some ⟨id,0,none⟩) out.length out.length∧a≤src.length∧out.length≤a ∧
  H.n<id∧tl≤1∧H'.get id = .row true tl 4 (flatT out)∧H'.get H.n = .row true 0 1 [.int .i64 0,.int .i64 0]∧Same (fun _=>False) H H'
def SpanI (p:UInt8→Bool)(src:List UInt8)(H2:Heap)(e:Nat)(m:Nat)(t:List Value)(H':Heap):Prop :=
 ∃ to:Nat,to+m=src.length∧rd t 7 = .int .i64 to∧H'=H2∧spanTo p src to=e
section
variable {E:Hooks} (hE:Plain E)
include hE
theorem all_walk {H:Heap}{sid off cap:Nat}{src:List UInt8}(hb:BS H sid off cap src)(hsm:src.length≤4096){n:Nat}{res:List Tk ⊕ (Int × Int)}(hres:lexFrom src n 0 []=some res) :
  Gives ((run Tryd.prog E).call 6 [.slice (some ⟨sid,off,none⟩) src.length cap] H) (RetL H res):=by
 have hsid:sid<H.n:=by obtain⟨_,_,_,_,h,_⟩:=hb;exact Heap.lt_of_get h (by simp)
 have hcap:src.length≤cap:=by obtain⟨_,_,_,_,_,_,h,_⟩:=hb;exact h
 rw[c_All hE,callB,bodyOf]
 simp[Tryd.f6,show ¬(4096:Int)<src.length by omega]
 refine loop_wp (LexI src H res n) n ?_ ?_
 · exact⟨Nat.le_refl n,0,[],H.n+1,0,hres,by simp,by simp,by omega,by simp,by omega,by omega,by simp[flatT],by simp,(Same.push _ _ _).then_push _⟩
 rintro m t H' hk ⟨hmn,a,out,id,tl,hl,g5,g4,ha,hol,hid,htl,gO,gF,kS⟩
 have ht:t.length=193:=hk.1.trans (by simp[len_Bs])
 have hh:=hk.all [0,3] (by decide +kernel)
 simp at hh
 obtain⟨t0,t3⟩:=hh
 have hH:=Heap.lt_of_get gO (by simp)
 have hB:=hb.same kS (fun h=>h)
 cases m with
 | zero=>cases hl
 | succ m =>
 rw[lexFrom]at hl
 have hfl:=flatT_length out
 have grow:∀ tk:Tk,∃ H2,exAppend Tryd.prog [25,25] (.slice (some ⟨id,0,none⟩) out.length out.length) (.slice (some ⟨H'.n,0,none⟩) 1 1) (H'.push (.row true 0 4 tk.cells))=some (.slice (some ⟨H'.n+1,0,none⟩) (out.length+1) (out.length+1),H2) ∧
   H2.get (H'.n+1) = .row true 1 4 (flatT (out++[tk]))∧H2.get H.n = .row true 0 1 [.int .i64 0,.int .i64 0]∧Same (fun _=>False) H H2∧H'.n+1<H2.n:=by
  intro tk
  obtain⟨H2,e1,e2,e3,e4⟩:=app_one tf_tok (H:=H'.push (.row true 0 4 tk.cells)) (id:=id) (tl:=tl) (n:=out.length) (xid:=H'.n) (cs:=flatT out) (c:=tk.cells) (xt:=0) (xe:=4) (xo:=true) (xc:=1) (by rw[Heap.get_push,if_neg (by omega)];exact gO) (by omega) htl rfl (Heap.get_push_self _ _) (by omega)
  refine⟨H2,e1,by rw[flatT_append];exact e2,e4.at (by rw[Heap.get_push,if_neg (by omega)];exact gF) (by simp) (by omega),(kS.then_push _).then e4 (fun i hi => .inr (by omega)),?_⟩
  rw[e3];simp
 by_cases hlt:a<src.length
 · rw[dif_pos hlt]at hl
   obtain⟨own,tl2,es,cs,hg1,hg2⟩:=hB.cell hlt
   have hw1:=wrap64 ((a:Int)+1) (by omega) (by omega)
   unfold lexStep at hl
   generalize hbb:src[a]=b at hl hg2
   have hb8:b.toNat<256:=b.toNat_lt
   simp only[byteC]at hg2
   by_cases c1:b.toNat=32∨b.toNat=9∨b.toNat=10∨b.toNat=13
   · rw[if_pos c1]at hl
     have d:b.toNat=32∨b.toNat=9∨b.toNat=10∨b.toNat=13:=c1
     rcases d with d | d | d | d
     all_goals
      simp[ht,g5,g4,t0,t3,hlt,hg1,hg2,hw1,d]
      exact⟨m,by omega,by omega,a+1,out,id,tl,hl,by simp[ht],by simp[ht,g4],by omega,by omega,hid,htl,gO,gF,kS⟩
   rw[if_neg c1]at hl
   simp only[not_or]at c1
   obtain⟨d1,d2,d3,d4⟩:=c1
   have D1:¬(b.toNat:Int)=32:=by omega
   have D2:¬(b.toNat:Int)=9:=by omega
   have D3:¬(b.toNat:Int)=10:=by omega
   have D4:¬(b.toNat:Int)=13:=by omega
   by_cases c2:b.toNat=123
   · rw[if_pos c2]at hl
     obtain⟨hs1,hs2⟩:=spanTo_le (p:=fun b => !decide (b.toNat=125)) (src:=src) (to:=a+1) (by omega)
     generalize hsp:spanTo (fun b => !decide (b.toNat=125)) src (a+1)=sp at *
     simp[ht,g5,g4,t0,t3,hlt,hg1,hg2,hw1,c2]
     refine loop_wp (SpanI (fun b => !decide (b.toNat=125)) src H' sp) (src.length - (a+1)) ⟨a+1,by omega,by simp[ht],rfl,hsp⟩ ?_
     rintro m2 t2 H2 hk2 ⟨to,hto,g7,rfl,hsp2⟩
     have ht2:t2.length=193:=hk2.1.trans (by simp[ht])
     have hh:=hk2.all [0,3,4,5] (by decide +kernel)
     simp[ht]at hh
     obtain⟨u0,u3,u4,u5⟩:=hh
     simp only[t0,t3,g4,g5]at u0 u3 u4 u5
     by_cases hte:to<src.length
     · obtain⟨own',tl2',es',cs',hg1',hg2'⟩:=hB.cell hte
       have hw7:=wrap64 ((to:Int)+1) (by omega) (by omega)
       by_cases hp:(src[to]).toNat=125
       · have:=spanTo_stop (p:=fun b => !decide (b.toNat=125)) hte (by simp[hp])
         have hes:sp=to:=by rw[← hsp2,this]
         subst hes
         rw[if_neg (by omega)]at hl
         simp only[byteC,hp]at hg2'
         simp[ht2,g7,u0,u3,u4,u5,hte,hg1',hg2',show ¬(sp:Int)=src.length by omega,hw7]
         exact⟨m,by omega,by omega,sp+1,out,id,tl,hl,by simp[ht2],by simp[ht2,u4],by omega,by omega,hid,htl,gO,gF,kS⟩
       · have:=spanTo_step (p:=fun b => !decide (b.toNat=125)) hte (by simp[hp])
         simp only[byteC]at hg2'
         simp[ht2,g7,u0,u3,u4,u5,hte,hg1',hg2',hw7,show ¬((src[to]).toNat:Int)=125 by omega]
         exact⟨m2 - 1,by omega,to+1,by omega,by simp[ht2],rfl,by rw[← this];exact hsp2⟩
     · obtain rfl:to=src.length:=by omega
       rw[spanTo_end]at hsp2
       subst hsp2
       rw[if_pos rfl]at hl
       cases hl
       have hn2:H.n<H2.n:=by omega
       simp[ht2,g7,u0,u3,u4,u5,gF,hn2]
       exact⟨kS.then_set hn2 (.inr (Nat.le_refl _)) _,by simp⟩
   rw[if_neg c2]at hl
   have D5:¬(b.toNat:Int)=123:=by omega
   by_cases c3:b.toNat=80∨b.toNat=86
   · rw[if_pos c3]at hl
     simp only[]at hl
     obtain⟨hc1,hc2⟩:=hB.cut a (a+1) (by omega) (by omega) (by omega)
     have hcs:=conv_str hc2 1 (by simp;omega)
     rw[show a+1 - a=1 by omega]at hc1 hcs
     rw[show ((a+1:Nat):Int)=(a:Int)+1 by omega]at hc1
     obtain⟨H2,e1,e2,e3,e4,e5⟩:=grow ⟨3,a,0,cutB src a (a+1)⟩
     simp only[Tk.cells,cutB]at e1
     rw[show a+1 - a=1 by omega]at e1
     rcases c3 with d | d
     all_goals
      simp[ht,g5,g4,t0,t3,hlt,hg1,hg2,hw1,d,hc1,hcs,e1]
      exact⟨m,by omega,by omega,a+1,_,H'.n+1,1,hl,by simp[ht],by simp[ht],by omega,by simp;omega,by omega,by omega,e2,e3,e4⟩
   rw[if_neg c3]at hl
   simp only[not_or]at c3
   obtain⟨d5,d6⟩:=c3
   have D6:¬(b.toNat:Int)=80:=by omega
   have D7:¬(b.toNat:Int)=86:=by omega
   have eL:=letter_run hE b H'
   simp only[byteC]at eL
   by_cases c4:letterB b=true
   · rw[if_pos c4]at hl
     obtain⟨hs1,hs2⟩:=spanTo_le (p:=nameB) (src:=src) (to:=a+1) (by omega)
     generalize hsp:spanTo nameB src (a+1)=sp at *
     simp[ht,g5,g4,t0,t3,hlt,hg1,hg2,hw1,D1,D2,D3,D4,D5,D6,D7,eL,c4]
     refine loop_wp (SpanI nameB src H' sp) (src.length - (a+1)) ⟨a+1,by omega,by simp[ht],rfl,hsp⟩ ?_
     rintro m2 t2 H2 hk2 ⟨to,hto,g7,rfl,hsp2⟩
     have ht2:t2.length=193:=hk2.1.trans (by simp[ht])
     have hh:=hk2.all [0,3,4,5] (by decide +kernel)
     simp[ht]at hh
     obtain⟨u0,u3,u4,u5⟩:=hh
     simp only[t0,t3,g4,g5]at u0 u3 u4 u5
     have step:(hte:to<src.length)→nameB src[to]=true→spanTo nameB src to=spanTo nameB src (to+1):=fun h1 h2=>spanTo_step h1 h2
     have stop:(hte:to<src.length)→nameB src[to]=false→sp=to:=fun h1 h2=>by rw[← hsp2,spanTo_stop h1 h2]
     obtain⟨hc1,hc2⟩:=hB.cut a sp (by omega) hs2 (by omega)
     have hcs:=conv_str hc2 (sp - a) (by simp;omega)
     obtain⟨HW,eW,kW⟩:=word_run hE (cutB src a sp) H2
     have kSW:=kS.trans kW
     have gOW:=kW.at gO (by simp) (fun h=>h)
     have gFW:=kW.at gF (by simp) (fun h=>h)
     have growW:∀ tk:Tk,∃ H2,exAppend Tryd.prog [25,25] (.slice (some ⟨id,0,none⟩) out.length out.length) (.slice (some ⟨HW.n,0,none⟩) 1 1) (HW.push (.row true 0 4 tk.cells))=some (.slice (some ⟨HW.n+1,0,none⟩) (out.length+1) (out.length+1),H2) ∧
       H2.get (HW.n+1) = .row true 1 4 (flatT (out++[tk]))∧H2.get H.n = .row true 0 1 [.int .i64 0,.int .i64 0]∧Same (fun _=>False) H H2∧HW.n+1<H2.n:=by
      intro tk
      have hHW:=Heap.lt_of_get gOW (by simp)
      obtain⟨H2,e1,e2,e3,e4⟩:=app_one tf_tok (H:=HW.push (.row true 0 4 tk.cells)) (id:=id) (tl:=tl) (n:=out.length) (xid:=HW.n) (cs:=flatT out) (c:=tk.cells) (xt:=0) (xe:=4) (xo:=true) (xc:=1) (by rw[Heap.get_push,if_neg (by omega)];exact gOW) (by omega) htl rfl (Heap.get_push_self _ _) (by omega)
      refine⟨H2,e1,by rw[flatT_append];exact e2,e4.at (by rw[Heap.get_push,if_neg (by omega)];exact gFW) (by simp) (by omega),(kSW.then_push _).then e4 (fun i hi => .inr (by omega)),?_⟩
      rw[e3];simp
     have hHW:=Heap.lt_of_get gOW (by simp)
     have hn2:H.n<HW.n:=by omega
     simp only[cutB]at eW
     have hsz:(⟨⟨(src.drop a).take (sp - a)⟩⟩:ByteArray).size=sp - a:=by
      show ((src.drop a).take (sp - a)).length=_
      simp;omega
     have hend:(sp=to∧(to=src.length∨∃ h:to<src.length,nameB src[to]=false))∨(∃ h:to<src.length,nameB src[to]=true):=by
      by_cases hte:to<src.length
      · cases hn:nameB src[to]with
        | true=>exact .inr ⟨hte,hn⟩
        | false=>exact .inl ⟨stop hte hn,.inr ⟨hte,hn⟩⟩
      · have:to=src.length:=by omega
        refine .inl ⟨?_,.inl this⟩
        rw[← hsp2,this,spanTo_end]
     rcases hend with⟨rfl,hend⟩ | ⟨hte,hn⟩
     · rcases hend with hend | ⟨hte,hn⟩
       · have hns:¬(sp:Int)<src.length:=by omega
         by_cases cw:isWord (cutB src a sp)=true
         · rw[if_pos cw]at hl
           simp only[]at hl
           simp only[cutB]at cw
           obtain⟨H3,e1,e2,e3,e4,e5⟩:=growW ⟨3,a,0,cutB src a sp⟩
           simp only[Tk.cells,cutB]at e1
           simp[ht2,g7,u0,u3,u4,u5,hns,hc1,hcs,eW,cw,e1]
           exact⟨m,by omega,by omega,sp,_,HW.n+1,1,hl,by simp[ht2],by simp[ht2],by omega,by simp;omega,by omega,by omega,e2,e3,e4⟩
         · rw[if_neg cw]at hl
           have cw':isWord (cutB src a sp)=false:=by simpa using cw
           simp only[cutB]at cw'
           by_cases c12:12<sp - a
           · rw[if_pos c12]at hl
             cases hl
             simp[ht2,g7,u0,u3,u4,u5,hns,hc1,hcs,eW,cw',hsz,show (12:Int)<((sp - a:Nat):Int) by omega,gFW,hn2]
             exact⟨kSW.then_set hn2 (.inr (Nat.le_refl _)) _,by simp⟩
           · rw[if_neg c12]at hl
             simp only[]at hl
             obtain⟨H3,e1,e2,e3,e4,e5⟩:=growW ⟨1,a,0,cutB src a sp⟩
             simp only[Tk.cells,cutB]at e1
             simp[ht2,g7,u0,u3,u4,u5,hns,hc1,hcs,eW,cw',hsz,show ¬(12:Int)<((sp - a:Nat):Int) by omega,e1]
             exact⟨m,by omega,by omega,sp,_,HW.n+1,1,hl,by simp[ht2],by simp[ht2],by omega,by simp;omega,by omega,by omega,e2,e3,e4⟩
       · obtain⟨own',tl2',es',cs',hg1',hg2'⟩:=hB.cell hte
         have eL2:=letter_run hE src[sp] H2
         have eD2:=digit_run hE src[sp] H2
         unfold nameB at hn
         simp only[Bool.or_eq_false_iff]at hn
         rw[hn.1]at eL2
         rw[hn.2]at eD2
         generalize src[sp]=b2 at hg2' eL2 eD2
         simp only[byteC]at hg2' eL2 eD2
         by_cases cw:isWord (cutB src a sp)=true
         · rw[if_pos cw]at hl
           simp only[]at hl
           simp only[cutB]at cw
           obtain⟨H3,e1,e2,e3,e4,e5⟩:=growW ⟨3,a,0,cutB src a sp⟩
           simp only[Tk.cells,cutB]at e1
           simp[ht2,g7,u0,u3,u4,u5,hte,hg1',hg2',eL2,eD2,hc1,hcs,eW,cw,e1]
           exact⟨m,by omega,by omega,sp,_,HW.n+1,1,hl,by simp[ht2],by simp[ht2],by omega,by simp;omega,by omega,by omega,e2,e3,e4⟩
         · rw[if_neg cw]at hl
           have cw':isWord (cutB src a sp)=false:=by simpa using cw
           simp only[cutB]at cw'
           by_cases c12:12<sp - a
           · rw[if_pos c12]at hl
             cases hl
             simp[ht2,g7,u0,u3,u4,u5,hte,hg1',hg2',eL2,eD2,hc1,hcs,eW,cw',hsz,show (12:Int)<((sp - a:Nat):Int) by omega,gFW,hn2]
             exact⟨kSW.then_set hn2 (.inr (Nat.le_refl _)) _,by simp⟩
           · rw[if_neg c12]at hl
             simp only[]at hl
             obtain⟨H3,e1,e2,e3,e4,e5⟩:=growW ⟨1,a,0,cutB src a sp⟩
             simp only[Tk.cells,cutB]at e1
             simp[ht2,g7,u0,u3,u4,u5,hte,hg1',hg2',eL2,eD2,hc1,hcs,eW,cw',hsz,show ¬(12:Int)<((sp - a:Nat):Int) by omega,e1]
             exact⟨m,by omega,by omega,sp,_,HW.n+1,1,hl,by simp[ht2],by simp[ht2],by omega,by simp;omega,by omega,by omega,e2,e3,e4⟩
     · obtain⟨own',tl2',es',cs',hg1',hg2'⟩:=hB.cell hte
       have hw7:=wrap64 ((to:Int)+1) (by omega) (by omega)
       have eL2:=letter_run hE src[to] H2
       have eD2:=digit_run hE src[to] H2
       have hst:=step hte hn
       unfold nameB at hn
       generalize src[to]=b2 at *
       simp only[byteC]at hg2' eL2 eD2
       cases hL:letterB b2 with
       | true =>
        rw[hL]at eL2
        simp[ht2,g7,u0,u3,u4,u5,hte,hg1',hg2',hw7,eL2]
        exact⟨m2 - 1,by omega,to+1,by omega,by simp[ht2],rfl,by rw[← hst];exact hsp2⟩
       | false =>
        rw[hL,Bool.false_or]at hn
        rw[hL]at eL2
        rw[hn]at eD2
        simp[ht2,g7,u0,u3,u4,u5,hte,hg1',hg2',hw7,eL2,eD2]
        exact⟨m2 - 1,by omega,to+1,by omega,by simp[ht2],rfl,by rw[← hst];exact hsp2⟩
   rw[if_neg c4]at hl
   have c4':letterB b=false:=by simpa using c4
   have eD:=digit_run hE b H'
   simp only[byteC]at eD
   by_cases c5:digitB b=true
   · rw[if_pos c5]at hl
     obtain⟨hs1,hs2⟩:=spanTo_le (p:=digitB) (src:=src) (to:=a+1) (by omega)
     generalize hsp:spanTo digitB src (a+1)=sp at *
     simp[ht,g5,g4,t0,t3,hlt,hg1,hg2,hw1,D1,D2,D3,D4,D5,D6,D7,eL,c4',eD,c5]
     refine loop_wp (SpanI digitB src H' sp) (src.length - (a+1)) ⟨a+1,by omega,by simp[ht],rfl,hsp⟩ ?_
     rintro m2 t2 H2 hk2 ⟨to,hto,g7,rfl,hsp2⟩
     have ht2:t2.length=193:=hk2.1.trans (by simp[ht])
     have hh:=hk2.all [0,3,4,5] (by decide +kernel)
     simp[ht]at hh
     obtain⟨u0,u3,u4,u5⟩:=hh
     simp only[t0,t3,g4,g5]at u0 u3 u4 u5
     have step:(hte:to<src.length)→digitB src[to]=true→spanTo digitB src to=spanTo digitB src (to+1):=fun h1 h2=>spanTo_step h1 h2
     have stop:(hte:to<src.length)→digitB src[to]=false→sp=to:=fun h1 h2=>by rw[← hsp2,spanTo_stop h1 h2]
     obtain⟨hc1,hc2⟩:=hB.cut a sp (by omega) hs2 (by omega)
     have hlen2:((src.drop a).take (sp - a)).length=sp - a:=by simp;omega
     have hdig:∀ x∈(src.drop a).take (sp - a),digitB x=true:=by
      rw[← hsp]
      exact span_all hlt (by rw[hbb];exact c5)
     have eN:=number_run hE hc2 hdig (by omega)
     rw[hlen2]at eN
     have hn2:H.n<H2.n:=by omega
     have hend:(sp=to∧(to=src.length∨∃ h:to<src.length,digitB src[to]=false))∨(∃ h:to<src.length,digitB src[to]=true):=by
      by_cases hte:to<src.length
      · cases hn:digitB src[to]with
        | true=>exact .inr ⟨hte,hn⟩
        | false=>exact .inl ⟨stop hte hn,.inr ⟨hte,hn⟩⟩
      · have:to=src.length:=by omega
        refine .inl ⟨?_,.inl this⟩
        rw[← hsp2,this,spanTo_end]
     rcases hend with⟨rfl,hend⟩ | ⟨hte,hn⟩
     · rcases hend with hend | ⟨hte,hn⟩
       · have hns:¬(sp:Int)<src.length:=by omega
         cases hnum:numFrom ((src.drop a).take (sp - a)) 0 with
         | none =>
          rw[hnum]at hl eN
          cases hl
          simp[ht2,g7,u0,u3,u4,u5,hns,hc1,eN,gF,hn2]
          exact⟨kS.then_set hn2 (.inr (Nat.le_refl _)) _,by simp⟩
         | some v =>
          rw[hnum]at hl eN
          simp only[]at hl
          obtain⟨H3,e1,e2,e3,e4,e5⟩:=grow ⟨2,a,v,ByteArray.empty⟩
          simp only[Tk.cells]at e1
          simp[ht2,g7,u0,u3,u4,u5,hns,hc1,eN,e1]
          exact⟨m,by omega,by omega,sp,_,H2.n+1,1,hl,by simp[ht2],by simp[ht2],by omega,by simp;omega,by omega,by omega,e2,e3,e4⟩
       · obtain⟨own',tl2',es',cs',hg1',hg2'⟩:=hB.cell hte
         have eD2:=digit_run hE src[sp] H2
         rw[hn]at eD2
         generalize src[sp]=b2 at hg2' eD2
         simp only[byteC]at hg2' eD2
         cases hnum:numFrom ((src.drop a).take (sp - a)) 0 with
         | none =>
          rw[hnum]at hl eN
          cases hl
          simp[ht2,g7,u0,u3,u4,u5,hte,hg1',hg2',eD2,hc1,eN,gF,hn2]
          exact⟨kS.then_set hn2 (.inr (Nat.le_refl _)) _,by simp⟩
         | some v =>
          rw[hnum]at hl eN
          simp only[]at hl
          obtain⟨H3,e1,e2,e3,e4,e5⟩:=grow ⟨2,a,v,ByteArray.empty⟩
          simp only[Tk.cells]at e1
          simp[ht2,g7,u0,u3,u4,u5,hte,hg1',hg2',eD2,hc1,eN,e1]
          exact⟨m,by omega,by omega,sp,_,H2.n+1,1,hl,by simp[ht2],by simp[ht2],by omega,by simp;omega,by omega,by omega,e2,e3,e4⟩
     · obtain⟨own',tl2',es',cs',hg1',hg2'⟩:=hB.cell hte
       have hw7:=wrap64 ((to:Int)+1) (by omega) (by omega)
       have eD2:=digit_run hE src[to] H2
       have hst:=step hte hn
       generalize src[to]=b2 at *
       simp only[byteC]at hg2' eD2
       rw[hn]at eD2
       simp[ht2,g7,u0,u3,u4,u5,hte,hg1',hg2',hw7,eD2]
       exact⟨m2 - 1,by omega,to+1,by omega,by simp[ht2],rfl,by rw[← hst];exact hsp2⟩
   rw[if_neg c5]at hl
   have c5':digitB b=false:=by simpa using c5
   obtain⟨hq1,hq2⟩:=hB.tail a hlt
   have eS:=sign_run hE hq2 (by simp;omega) (by simp;omega)
   simp only[List.length_drop]at eS
   have hsig:signP (src.drop a)≤src.length - a:=by
    have:=signP_le (src.drop a)
    simpa using this
   by_cases c6:signP (src.drop a)=0
   · rw[if_pos c6]at hl
     cases hl
     have hn2:H.n<H'.n:=by omega
     simp[ht,g5,g4,t0,t3,hlt,hg1,hg2,hw1,D1,D2,D3,D4,D5,D6,D7,eL,c4',eD,c5',hq1,eS,c6,gF,hn2]
     exact⟨kS.then_set hn2 (.inr (Nat.le_refl _)) _,by simp⟩
   · rw[if_neg c6]at hl
     simp only[]at hl
     generalize hsg:signP (src.drop a)=sg at *
     obtain⟨hc1,hc2⟩:=hB.cut a (a+sg) (by omega) (by omega) (by omega)
     have hcs:=conv_str hc2 sg (by simp;omega)
     rw[show a+sg - a=sg by omega]at hc1 hcs
     rw[show ((a+sg:Nat):Int)=(a:Int)+sg by omega]at hc1
     obtain⟨H2,e1,e2,e3,e4,e5⟩:=grow ⟨4,a,0,cutB src a (a+sg)⟩
     simp only[Tk.cells,cutB]at e1
     rw[show a+sg - a=sg by omega]at e1
     have hws:=wrap64 ((a:Int)+sg) (by omega) (by omega)
     simp[ht,g5,g4,t0,t3,hlt,hg1,hg2,hw1,D1,D2,D3,D4,D5,D6,D7,eL,c4',eD,c5',hq1,eS,c6,hws,hc1,hcs,e1]
     exact⟨m,by omega,by omega,a+sg,_,H'.n+1,1,hl,by simp[ht],by simp[ht],by omega,by simp;omega,by omega,by omega,e2,e3,e4⟩
 · rw[dif_neg hlt]at hl
   cases hl
   obtain⟨H2,e1,e2,e3,e4,e5⟩:=grow ⟨5,src.length,0,ByteArray.empty⟩
   simp only[Tk.cells]at e1
   have hn2:H.n<H2.n:=by omega
   simp[ht,g5,g4,t0,t3,hlt,e1,e3,hn2]
   have ks:Same (fun i=>i=H.n) H2 (H2.set H.n (.row true 0 1 [.int .i64 0,.int .i64 0])):=Same.set (X:=fun i=>i=H.n) H2 hn2 rfl _
   refine⟨e4.then ks (fun i hi => .inr (by omega)),H'.n+1,by omega,by simp,1,by omega,ks.at e2 (by simp) (by omega)⟩
end
theorem REs.length {H:Heap}{S:Nat→Prop}:∀ {l:List Ex}{cs:List Value},REs H S l cs→cs.length=l.length * 6
 | [],cs,h=>by simp only[REs]at h;subst h;rfl
 | e :: l, cs, h => by
  simp only[REs]at h
  obtain⟨c1,c2,rfl,h1,h2⟩:=h
  have:=REs.length h2
  have:=h1.len
  simp;omega
theorem REs.item {H:Heap}{S:Nat→Prop}:∀ {l:List Ex}{cs:List Value},REs H S l cs→∀ i (hi:i<l.length),RE H S l[i] ((cs.drop (i * 6)).take 6)
 | [],cs,_,i,hi=>absurd hi (Nat.not_lt_zero _)
 | e :: l, cs, h, i, hi => by
  simp only[REs]at h
  obtain⟨c1,c2,rfl,h1,h2⟩:=h
  have hl:=h1.len
  cases i with
  | zero =>
   simp only[Nat.zero_mul,List.drop_zero,List.getElem_cons_zero]
   rw[List.take_left' hl];exact h1
  | succ i =>
   have e:(i+1) * 6=c1.length+i * 6:=by omega
   rw[List.getElem_cons_succ,e,List.drop_append,List.drop_eq_nil_of_le (by omega),List.nil_append,show c1.length+i * 6 - c1.length=i * 6 by omega]
   exact REs.item h2 i (by simpa using hi)
mutual
def Thin:Ex→Prop
 | .mk _ _ _ _ _ s=>s.length≤2∧Thins s
def Thins:List Ex→Prop
 | []=>True
 | e :: es=>Thin e∧Thins es
end
theorem Thins.mem:∀ {l:List Ex},Thins l→∀ e∈l,Thin e
 | e :: l, h, x, hx => by
  simp only[Thins]at h
  rcases List.mem_cons.1 hx with rfl | hx
  · exact h.1
  · exact Thins.mem h.2 x hx
theorem thin_zero:Thin .zero:=by unfold Ex.zero;simp[Thin,Thins]
theorem x_thin (L:List Tk):∀ n cmd s e s',xP L n cmd s=some (e,s')→(∀ k lv x,cmd = .loop k lv x→Thin x)→Thin e:=by
 intro n
 induction n with
 | zero=>intro cmd s e s' h;cases h
 | succ n ih =>
  intro cmd s e s' h hx
  have one:∀ {a b c d y} {x:Ex},Thin x→Thin (.mk a b c d y [x]):=fun hx=>by simp[Thin,Thins,hx]
  have none':∀ {a b c d y},Thin (.mk a b c d y []):=by simp[Thin,Thins]
  have go:∀ {cmd s e s'},xP L n cmd s=some (e,s')→cmd.isLoop=false→Thin e:=fun h hl=>ih _ _ _ _ h (fun k lv x hc=>by rw[hc]at hl;cases hl)
  cases cmd with
  | row k lv =>
   rw[xP]at h
   split at h
   · cases h;exact thin_zero
   split at h
   · exact go h rfl
   split at h
   · split at h
     · exact go h rfl
     split at h
     · cases h;exact thin_zero
     · simp only[Option.map_eq_some_iff]at h
       obtain⟨⟨e1,s1⟩,h1,h2⟩:=h
       cases h2
       exact one (go h1 rfl)
   · simp only[Option.bind_eq_some_iff]at h
     obtain⟨⟨e1,s1⟩,h1,h2⟩:=h
     exact ih _ _ _ _ h2 fun k lv x hc=>by cases hc;exact go h1 rfl
  | loop k lv x =>
   have hx:=hx k lv x rfl
   rw[xP]at h
   split at h
   · cases h;exact hx
   · simp only[Option.bind_eq_some_iff]at h
     obtain⟨⟨e1,s1⟩,h1,h2⟩:=h
     have h3:=go h1 rfl
     have two:∀ {a b c d y},Thin (.mk a b c d y [x,e1]):=by simp[Thin,Thins,hx,h3]
     split at h2
     · cases h2;exact two
     · exact ih _ _ _ _ h2 fun k lv x hc=>by cases hc;exact two
  | fact lv =>
   rw[xP]at h
   split at h
   · split at h
     · cases h;exact thin_zero
     · simp only[Option.map_eq_some_iff]at h
       obtain⟨⟨e1,s1⟩,h1,h2⟩:=h
       cases h2
       exact one (go h1 rfl)
   split at h
   · cases h;exact none'
   split at h
   · cases h;exact none'
   split at h
   · cases h;exact none'
   split at h
   · split at h
     · cases h;exact thin_zero
     · simp only[Option.map_eq_some_iff]at h
       obtain⟨⟨e1,s1⟩,h1,h2⟩:=h
       cases h2
       exact go h1 rfl
   split at h
   · split at h
     · cases h;exact none'
     · simp only[Option.map_eq_some_iff]at h
       obtain⟨⟨e1,s1⟩,h1,h2⟩:=h
       cases h2
       exact one (go h1 rfl)
   · cases h;exact thin_zero
  | index lv =>
   rw[xP]at h
   split at h
   · cases h;exact thin_zero
   split at h
   · cases h;exact thin_zero
   · simp only[Option.map_eq_some_iff]at h
     obtain⟨⟨e1,s1⟩,h1,h2⟩:=h
     cases h2
     exact go h1 rfl
mutual
def sameE:Ex→Ex→Bool
 | .mk k _ n o x s,.mk k' _ n' o' x' s'=>decide (k=k') && (decide (n=n') && (decide (o=o') && (decide (x=x') && sameEs s s')))
def sameEs:List Ex→List Ex→Bool
 | [],[]=>true
 | e :: es,f :: fs=>sameE e f && sameEs es fs
 | _,_=>false
end
theorem sameEs_len:∀ {a b:List Ex},sameEs a b=true→a.length=b.length
 | [],[],_=>rfl
 | [],_ :: _,h=>by simp[sameEs]at h
 | _ :: _,[],h=>by simp[sameEs]at h
 | e :: es, f :: fs, h => by
  simp only[sameEs,Bool.and_eq_true]at h
  simp[sameEs_len h.2]
theorem sameEs_at:∀ {a b:List Ex},a.length=b.length→((∀ i (h:i<a.length)(h':i<b.length),sameE a[i] b[i]=true)→sameEs a b=true)∧∀ i (h:i<a.length)(h':i<b.length),sameE a[i] b[i]=false→sameEs a b=false
 | [],[],_=>⟨fun _=>rfl,fun i h=>absurd h (Nat.not_lt_zero _)⟩
 | [],_ :: _,h=>by simp at h
 | _ :: _,[],h=>by simp at h
 | e :: es, f :: fs, h => by
  have ih:=sameEs_at (a:=es) (b:=fs) (by simpa using h)
  refine⟨fun hk => ?_,fun i h1 h2 hf => ?_⟩
  · simp only[sameEs,Bool.and_eq_true]
    exact⟨hk 0 (by simp) (by simp),ih.1 fun i h1 h2=>hk (i+1) (by simpa using h1) (by simpa using h2)⟩
  · simp only[sameEs]
    cases i with
    | zero=>simp only[List.getElem_cons_zero]at hf;rw[hf];rfl
    | succ i =>
     rw[ih.2 i (by simpa using h1) (by simpa using h2) (by simpa using hf),Bool.and_false]
mutual
theorem sameE_refl:∀ e,sameE e e=true
 | .mk k a n o x s=>by simp[sameE,sameEs_refl s]
theorem sameEs_refl:∀ l,sameEs l l=true
 | []=>rfl
 | e :: l=>by simp[sameEs,sameE_refl e,sameEs_refl l]
end
theorem q_same:quiet Tryd.prog (drawN Tryd.f51 0)=true:=by decide +kernel
theorem q_ints:quiet Tryd.prog (drawN Tryd.f22 0)=true:=by decide +kernel
section
variable {E:Hooks} (hE:Plain E)
include hE
theorem c_SameExpr (args:List Value)(H:Heap):(run Tryd.prog E).call 21 args H=callB Tryd.prog E Tryd.f21 args H:=call_B Tryd.func21 rfl (by decide +kernel) (hE.no _ rfl rfl) args H
theorem c_sameExprs (args:List Value)(H:Heap):(run Tryd.prog E).call 51 args H=callB Tryd.prog E Tryd.f51 args H:=call_B Tryd.func51 rfl (by decide +kernel) (hE.no _ rfl rfl) args H
theorem c_exprPlaces (args:List Value)(H:Heap):(run Tryd.prog E).call 52 args H=callB Tryd.prog E Tryd.f52 args H:=call_B Tryd.func52 rfl (by decide +kernel) (hE.no _ rfl rfl) args H
theorem c_ExprPlaces (args:List Value)(H:Heap):(run Tryd.prog E).call 23 args H=callB Tryd.prog E Tryd.f23 args H:=call_B Tryd.func23 rfl (by decide +kernel) (hE.no _ rfl rfl) args H
theorem c_Ints (args:List Value)(H:Heap):(run Tryd.prog E).call 22 args H=callB Tryd.prog E Tryd.f22 args H:=call_B Tryd.func22 rfl (by decide +kernel) (hE.no _ rfl rfl) args H
omit hE in
def SameOK (E:Hooks)(e:Ex):Prop:=∀ (f:Ex) (H:Heap) (S1 S2:Nat→Prop) (c1 c2:List Value),Thin e→Thin f→RE H S1 e c1→RE H S2 f c2 →
 Gives ((run Tryd.prog E).call 21 [.agg ⟨c1⟩,.agg ⟨c2⟩] H) fun o H'=>o = .val (.bool (sameE e f))∧Same (fun _=>False) H H'
theorem sames_run {a:List Ex}(ha:∀ e∈a,SameOK E e){b:List Ex}(ta:Thins a)(tb:Thins b){H:Heap}{S1 S2:Nat→Prop}{v1 v2:Value}(hl:a.length≤100000)(hl2:b.length≤100000)
  (h1:(v1 = .slice none 0 0∧a=[])∨∃ id tl cs',v1 = .slice (some ⟨id,0,none⟩) a.length a.length∧H.get id = .row true tl 6 cs'∧REs H S1 a cs')
  (h2:(v2 = .slice none 0 0∧b=[])∨∃ id tl cs',v2 = .slice (some ⟨id,0,none⟩) b.length b.length∧H.get id = .row true tl 6 cs'∧REs H S2 b cs') :
  Gives ((run Tryd.prog E).call 51 [v1,v2] H) fun o H'=>o = .val (.bool (sameEs a b))∧Same (fun _=>False) H H':=by
 obtain⟨x1,rfl⟩:∃ x1,v1 = .slice x1 a.length a.length:=by
  rcases h1 with⟨rfl,rfl⟩ | ⟨id,tl,cs,rfl,_⟩<;>exact⟨_,rfl⟩
 obtain⟨x2,rfl⟩:∃ x2,v2 = .slice x2 b.length b.length:=by
  rcases h2 with⟨rfl,rfl⟩ | ⟨id,tl,cs,rfl,_⟩<;>exact⟨_,rfl⟩
 rw[c_sameExprs hE,callB,bodyOf]
 by_cases hlen:¬a.length=b.length
 · have hs:sameEs a b=false:=by
    cases h:sameEs a b with
    | false=>rfl
    | true=>exact absurd (sameEs_len h) hlen
   simp[Tryd.f51,show ¬(a.length:Int)=b.length by omega,hs,hlen]
   exact Same.refl _ _
 have hlen:a.length=b.length:=by omega
 have key:=sameEs_at hlen
 simp[Tryd.f51,hlen]
 refine loop_wp (fun m t K=>∃ i:Nat,i+m=b.length∧rd t 5 = .int .i64 i∧Same (fun _=>False) H K∧∀ j (h:j<a.length) (h':j<b.length),j<i→sameE a[j] b[j]=true) b.length ?_ ?_
 · exact⟨0,by omega,by simp,Same.refl _ _,fun j _ _ h=>by omega⟩
 rintro m t K hk ⟨i,hm,g5,kS,hj⟩
 have ht:t.length=27:=hk.1.trans (by simp[len_Bs])
 have hh:=hk.all [0,1] (by decide +kernel)
 simp at hh
 obtain⟨u0,u1⟩:=hh
 rcases Nat.lt_or_ge i b.length with hi | hi
 · have hia:i<a.length:=by omega
   rcases h1 with⟨e1,rfl⟩ | ⟨id1,tl1,cs1,e1,g1,r1⟩
   · simp at hia
   rcases h2 with⟨e2,rfl⟩ | ⟨id2,tl2,cs2,e2,g2,r2⟩
   · simp at hi
   simp only[Value.slice.injEq]at e1 e2
   obtain⟨rfl,_,_⟩:=e1
   obtain⟨rfl,_,_⟩:=e2
   have g1':=kS.at g1 (by simp) (fun h=>h)
   have g2':=kS.at g2 (by simp) (fun h=>h)
   have q1:=RE.move kS (S':=S1) (fun i hi _=>⟨hi,fun h=>h⟩) _ _ (r1.item i hia)
   have q2:=RE.move kS (S':=S2) (fun i hi _=>⟨hi,fun h=>h⟩) _ _ (r2.item i hi)
   have l1:=r1.length
   have l2:=r2.length
   obtain⟨o,K',e3,rfl,k3⟩:=ha a[i] (List.getElem_mem hia) b[i] K S1 S2 _ _ (ta.mem _ (List.getElem_mem hia)) (tb.mem _ (List.getElem_mem hi)) q1 q2
   have hw:=wrap64 ((i:Int)+1) (by omega) (by omega)
   simp[ht,u0,u1,g5,hi]
   refine region_quiet (by exact q_same) ?_
   by_cases hs:sameE a[i] b[i]=true
   · rw[hs]at e3
     simp[ht,u0,u1,g5,hi,hia,g1',g2',l1,l2,show i * 6+6≤a.length * 6 by omega,show i * 6+6≤b.length * 6 by omega,e3,hw,← hlen]
     refine⟨m - 1,by omega,i+1,by omega,by simp[ht],kS.then0 k3,fun j h h' hlt => ?_⟩
     rcases Nat.lt_or_ge j i with h3 | h3
     · exact hj j h (by omega) h3
     · obtain rfl:j=i:=by omega
       exact hs
   · have hs':sameE a[i] b[i]=false:=by simpa using hs
     rw[hs']at e3
     simp[ht,u0,u1,g5,hi,hia,g1',g2',l1,l2,show i * 6+6≤a.length * 6 by omega,show i * 6+6≤b.length * 6 by omega,e3,← hlen]
     exact⟨key.2 i hia hi hs',kS.then0 k3⟩
 · simp[ht,u0,u1,g5,show ¬i<b.length by omega]
   exact⟨key.1 fun j h h'=>hj j h h' (by omega),kS⟩
theorem same_run:∀ n e,SizeOf.sizeOf e<n→SameOK E e:=by
 intro n
 induction n with
 | zero=>intro e h;omega
 | succ n ih =>
  intro e hn f H S1 S2 c1 c2 te tf h1 h2
  cases e with
  | mk k a m o x s =>
  cases f with
  | mk k' a' m' o' x' s' =>
  simp only[Thin]at te tf
  simp only[RE]at h1 h2
  obtain⟨v1,rfl,h1⟩:=h1
  obtain⟨v2,rfl,h2⟩:=h2
  rw[c_SameExpr hE,callB,bodyOf]
  have g1:((H.push (.row true 0 1 [.int .i64 k,.int .i64 a,.int .i64 m,.int .i64 o,.string x,v1])).push (.row true 0 1 [.int .i64 k',.int .i64 a',.int .i64 m',.int .i64 o',.string x',v2])).get H.n = .row true 0 1 [.int .i64 k,.int .i64 a,.int .i64 m,.int .i64 o,.string x,v1]:=by
   rw[Heap.get_push,if_neg (by simp),Heap.get_push_self]
  have kS:Same (fun _=>False) H ((H.push (.row true 0 1 [.int .i64 k,.int .i64 a,.int .i64 m,.int .i64 o,.string x,v1])).push (.row true 0 1 [.int .i64 k',.int .i64 a',.int .i64 m',.int .i64 o',.string x',v2])):=(Same.push _ _ _).then_push _
  have hb:isTuple v1=false∧v1.cells.toList=[v1]:=by rcases h1 with⟨rfl,_⟩ | ⟨id,tl,cs',rfl,_⟩<;>exact⟨rfl,rfl⟩
  have hb2:isTuple v2=false∧v2.cells.toList=[v2]:=by rcases h2 with⟨rfl,_⟩ | ⟨id,tl,cs',rfl,_⟩<;>exact⟨rfl,rfl⟩
  simp only[sameE]
  by_cases c1:k=k'∧m=m'∧o=o'∧x=x'
  · obtain⟨rfl,rfl,rfl,rfl⟩:=c1
    obtain⟨x1,n1,d1,hx1⟩:∃ x1 n1 d1,v1 = .slice x1 n1 d1:=by rcases h1 with⟨rfl,rfl⟩ | ⟨id,tl,cs,rfl,_⟩<;>exact⟨_,_,_,rfl⟩
    obtain⟨x2,n2,d2,hx2⟩:∃ x1 n1 d1,v2 = .slice x1 n1 d1:=by rcases h2 with⟨rfl,rfl⟩ | ⟨id,tl,cs,rfl,_⟩<;>exact⟨_,_,_,rfl⟩
    obtain⟨o1,K,e1,rfl,k1⟩:=sames_run hE (a:=s) (fun e he=>ih e (by
      have:=List.sizeOf_lt_of_mem he
      have h3:SizeOf.sizeOf (Ex.mk k a m o x s)=1+SizeOf.sizeOf k+SizeOf.sizeOf a+SizeOf.sizeOf m+SizeOf.sizeOf o+SizeOf.sizeOf x+SizeOf.sizeOf s:=by simp
      omega)) te.2 tf.2 (by omega) (by omega)
     (h1.imp (fun h=>h) fun ⟨id,tl,cs',q1,q2,q3,q4⟩=>⟨id,tl,cs',q1,kS.at q3 (by simp) (fun h=>h),REs.move kS (S':=S1) (fun i hi _=>⟨hi,fun h=>h⟩) _ _ q4⟩)
     (h2.imp (fun h=>h) fun ⟨id,tl,cs',q1,q2,q3,q4⟩=>⟨id,tl,cs',q1,kS.at q3 (by simp) (fun h=>h),REs.move kS (S':=S2) (fun i hi _=>⟨hi,fun h=>h⟩) _ _ q4⟩)
    subst hx1 hx2
    simp[Tryd.f21,g1,e1]
    exact kS.trans k1
  · have hs:(decide (k=k') && (decide (m=m') && (decide (o=o') && (decide (x=x') && sameEs s s'))))=false:=by
     by_cases d1:k=k'
     · by_cases d2:m=m'
       · by_cases d3:o=o'
         · have d4:¬x=x':=fun h=>c1 ⟨d1,d2,d3,h⟩
           simp[d4]
         · simp[d3]
       · simp[d2]
     · simp[d1]
    rw[hs]
    by_cases d1:k=k'
    · by_cases d2:m=m'
      · by_cases d3:o=o'
        · have d4:¬x=x':=fun h=>c1 ⟨d1,d2,d3,h⟩
          simp[Tryd.f21,g1,hb,hb2,d1,d2,d3,d4]
          exact (Same.push _ _ _).then_push _
        · simp[Tryd.f21,g1,hb,hb2,d1,d2,d3]
          exact (Same.push _ _ _).then_push _
      · simp[Tryd.f21,g1,hb,hb2,d1,d2]
        exact (Same.push _ _ _).then_push _
    · simp[Tryd.f21,g1,hb,hb2,d1]
      exact (Same.push _ _ _).then_push _
omit hE in
mutual
def placesE:Ex→List Int
 | .mk _ a _ _ _ s=>a :: placesEs s
def placesEs:List Ex→List Int
 | []=>[]
 | e :: es=>placesE e++placesEs es
end
omit hE in
def IntsAt (H:Heap)(v:Value)(l:List Int):Prop:=(v = .slice none 0 0∧l=[])∨∃ id tl,v = .slice (some ⟨id,0,none⟩) l.length l.length∧tl≤1∧H.get id = .row true tl 1 (l.map (.int .i64))
omit hE in
def idOf (v:Value)(i:Nat):Prop:=match v with | .slice (some a) _ _=>a.block=i | _=>False
omit hE in
theorem tf_int:TF Tryd.prog 22 1:=⟨_,_,_,by simp,by simp,by simp;rfl,by omega,by simp;rfl,rfl,by omega,rfl⟩
omit hE in
theorem IntsAt.app {H:Heap}{v:Value}{l:List Int}(h:IntsAt H v l)(hl:l.length≤100000)(a:Int) :
  ∃ v' H',exAppend Tryd.prog [22,22] v (.slice (some ⟨H.n,0,none⟩) 1 1) (H.push (.row true 0 1 [.int .i64 a]))=some (v',H')∧IntsAt H' v' (l++[a])∧Same (idOf v) H H'∧(∀ i,idOf v' i→H.n≤i)∧(∃ b,v' = .slice b (l.length+1) (l.length+1)):=by
 rcases h with⟨rfl,rfl⟩ | ⟨id,tl,rfl,htl,hg⟩
 · refine⟨_,_,app_nil tf_int (c:=[.int .i64 a]) rfl (Heap.get_push_self _ _),.inr ⟨_,1,rfl,by omega,by exact Heap.get_push_self _ _⟩,Same.none ((Same.push _ _ _).then_push _),fun i hi => ?_,_,rfl⟩
   have:H.n+1=i:=hi
   omega
 · have hid:=Heap.lt_of_get hg (by simp)
   obtain⟨H2,e1,e2,e3,e4⟩:=app_one tf_int (H:=H.push (.row true 0 1 [.int .i64 a])) (id:=id) (tl:=tl) (n:=l.length) (xid:=H.n) (cs:=l.map (.int .i64)) (c:=[.int .i64 a]) (xt:=0) (xe:=1) (xo:=true) (xc:=1) (by rw[Heap.get_push,if_neg (by omega)];exact hg) (by simp) htl rfl (Heap.get_push_self _ _) hl
   refine⟨_,H2,e1,.inr ⟨H.n+1,1,by simp,by omega,by simpa using e2⟩,((Same.none (Same.push _ _ _)).trans (e4.mono fun i hi=>hi.symm)),fun i hi => ?_,_,rfl⟩
   have:H.n+1=i:=hi
   omega
omit hE in
def PlacesOK (E:Hooks)(e:Ex):Prop:=∀ (H:Heap) (S:Nat→Prop) (cs:List Value) (v:Value) (l:List Int),Thin e→RE H S e cs→(∀ i,S i→¬idOf v i)→IntsAt H v l→l.length+(placesE e).length≤100000 →
 Gives ((run Tryd.prog E).call 52 [.agg ⟨cs⟩,v] H) fun o H'=>∃ v',o = .val v'∧IntsAt H' v' (l++placesE e)∧Same (idOf v) H H'∧(∀ i,idOf v' i→H.n≤i)
omit hE in
def PlacesI (H:Heap)(v:Value)(l:List Int)(a:Int)(s:List Ex)(bx:List Value)(mm:Nat)(t:List Value)(K:Heap):Prop :=
 ∃ (i:Nat) (v2:Value),i+mm=s.length∧rd t 5 = .int .i64 i∧rd t 1=v2∧IntsAt K v2 (l++a :: placesEs (s.take i))∧Same (idOf v) H K∧H.n<K.n∧K.get H.n = .row true 0 1 bx∧(∀ i,idOf v2 i→H.n+1≤i)
omit hE in
theorem placesEs_at:∀ (l:List Ex)(i:Nat)(h:i<l.length),placesEs (l.take (i+1))=placesEs (l.take i)++placesE l[i]
 | [],i,h=>absurd h (Nat.not_lt_zero _)
 | e :: l,0,h=>by simp[placesEs]
 | e :: l, i + 1, h => by
  have:=placesEs_at l i (by simpa using h)
  simp only[List.take_succ_cons,placesEs,this,List.getElem_cons_succ,List.append_assoc]
omit hE in
theorem placesEs_le:∀ (l:List Ex)(i:Nat),(placesEs (l.take i)).length≤(placesEs l).length
 | [],i=>by simp
 | e :: l,0=>by simp[placesEs]
 | e :: l, i + 1 => by
  have:=placesEs_le l i
  simp only[List.take_succ_cons,placesEs,List.length_append];omega
theorem places_run:∀ n e,SizeOf.sizeOf e<n→PlacesOK E e:=by
 intro n
 induction n with
 | zero=>intro e h;omega
 | succ n ih =>
  intro e hn H S cs v l te h hS hv hlen
  replace h:=RE.move (Same.refl (fun _=>False) H) (S':=fun i=>S i∧i<H.n) (fun i hi hlt=>⟨⟨hi,hlt⟩,fun h=>h⟩) _ _ h
  cases e with
  | mk k a m o x s =>
  simp only[Thin]at te
  simp only[RE]at h
  obtain⟨w,rfl,h⟩:=h
  simp only[placesE,List.length_cons]at hlen
  have kP:Same (fun _=>False) H (H.push (.row true 0 1 [.int .i64 k,.int .i64 a,.int .i64 m,.int .i64 o,.string x,w])):=Same.push _ _ _
  have hv1:IntsAt (H.push (.row true 0 1 [.int .i64 k,.int .i64 a,.int .i64 m,.int .i64 o,.string x,w])) v l:=hv.imp (fun h=>h) fun ⟨id,tl,q1,q2,q3⟩=>⟨id,tl,q1,q2,kP.at q3 (by simp) (fun h=>h)⟩
  obtain⟨v1,H1,e1,hv2,k1,f1,b1,hb1⟩:=hv1.app (by omega) a
  have n1:=k1.n
  simp at n1
  have kH:Same (idOf v) H H1:=(Same.none kP).trans k1
  have hvn:∀ i,idOf v i→i<H.n:=fun i hi=>by
   rcases hv with⟨rfl,_⟩ | ⟨id,tl,rfl,_,q⟩
   · exact hi.elim
   · have:id=i:=hi
     subst this
     exact Heap.lt_of_get q (by simp)
  have gb:H1.get H.n = .row true 0 1 [.int .i64 k,.int .i64 a,.int .i64 m,.int .i64 o,.string x,w]:=k1.at (Heap.get_push_self _ _) (by simp) (fun h=>by have:=hvn _ h;omega)
  obtain⟨x1,n2,d1,hw⟩:∃ x1 n1 d1,w = .slice x1 n1 d1:=by rcases h with⟨rfl,rfl⟩ | ⟨id,tl,cs,rfl,_⟩<;>exact⟨_,_,_,rfl⟩
  have hw2:n2=s.length∧d1=s.length:=by
   rcases h with⟨h1,rfl⟩ | ⟨id,tl,cs,h1,_⟩
   · rw[h1]at hw;cases hw;exact⟨rfl,rfl⟩
   · rw[h1]at hw;cases hw;exact⟨rfl,rfl⟩
  obtain⟨rfl,rfl⟩:=hw2
  subst hw
  rw[c_exprPlaces hE,callB,bodyOf]
  obtain⟨vb,vl,vc,rfl⟩:∃ b l c,v = .slice b l c:=by rcases hv with⟨rfl,_⟩ | ⟨_,_,rfl,_⟩<;>exact⟨_,_,_,rfl⟩
  subst hb1
  simp only[Heap.n_push]at e1
  simp[Tryd.f52,e1]
  refine loop_wp (PlacesI H (.slice vb vl vc) l a s [.int .i64 k,.int .i64 a,.int .i64 m,.int .i64 o,.string x,.slice x1 s.length s.length]) s.length ?_ ?_
  · refine⟨0,_,by omega,by simp,rfl,?_,kH,by omega,gb,fun i hi => ?_⟩
    · simpa [placesEs] using hv2
    · have:=f1 i (by simpa using hi);simpa using this
  rintro mm t K hk ⟨i,v2,hm,g5,g1,hI,kS,hKn,gB,hf⟩
  have ht:t.length=26:=hk.1.trans (by simp[len_Bs])
  have hh:=hk.all [2] (by decide +kernel)
  simp at hh
  obtain⟨v2b,v2l,v2c,rfl⟩:∃ b l c,v2 = .slice b l c:=by rcases hI with⟨rfl,_⟩ | ⟨_,_,rfl,_⟩<;>exact⟨_,_,_,rfl⟩
  rcases Nat.lt_or_ge i s.length with hi | hi
  · rcases h with⟨h1,rfl⟩ | ⟨id,tl,cs,h1,hSi,gid,hr⟩
    · simp at hi
    simp only[Value.slice.injEq,and_true]at h1
    subst h1
    have lS:=hr.length
    have gid2:K.get id = .row true tl 6 cs:=kS.at gid (by simp) (hS id hSi.1)
    have hr2:=REs.move kS (S':=fun i=>S i∧i<H.n) (fun i hi _=>⟨hi,hS i hi.1⟩) _ _ hr
    have hit:=hr2.item i hi
    have hpl:=placesEs_at s i hi
    have hle:=placesEs_le s (i+1)
    rw[hpl,List.length_append]at hle
    obtain⟨o3,K3,e3,v3,rfl,hI3,k3,f3⟩:=ih s[i] (by
      have:=List.sizeOf_lt_of_mem (List.getElem_mem hi)
      have h3:SizeOf.sizeOf (Ex.mk k a m o x s)=1+SizeOf.sizeOf k+SizeOf.sizeOf a+SizeOf.sizeOf m+SizeOf.sizeOf o+SizeOf.sizeOf x+SizeOf.sizeOf s:=by simp
      omega) K (fun i=>S i∧i<H.n) _ (.slice v2b v2l v2c) (l++a :: placesEs (s.take i)) (te.2.mem _ (List.getElem_mem hi)) hit (fun j hj hj2=>by
       have h5:=hf j hj2
       omega) hI (by simp only[List.length_append,List.length_cons];omega)
    have n3:=k3.n
    have gB3:=k3.at gB (by simp) (fun h=>by have:=hf _ h;omega)
    have hw:=wrap64 ((i:Int)+1) (by omega) (by have:=te.1;omega)
    obtain⟨v3b,v3l,v3c,rfl⟩:∃ b l c,v3 = .slice b l c:=by rcases hI3 with⟨rfl,_⟩ | ⟨_,_,rfl,_⟩<;>exact⟨_,_,_,rfl⟩
    simp[ht,g5,g1,hh,gB,hi,hKn,gid2,lS,show i * 6+6≤s.length * 6 by omega,e3,hw]
    refine⟨mm - 1,by omega,i+1,.slice v3b v3l v3c,by omega,by simp[ht],by simp[ht],?_,kS.then k3 (fun j hj => .inr (by have:=hf j hj;omega)),by omega,gB3,fun j hj=>by have:=f3 j hj;omega⟩
    rw[hpl]
    simpa using hI3
  · simp[ht,g5,g1,hh,gB,hKn,show ¬i<s.length by omega]
    refine⟨?_,kS,fun j hj=>by have:=hf j hj;omega⟩
    have:s.take i=s:=List.take_of_length_le hi
    rw[this]at hI
    simpa [placesE] using hI
theorem all_places (e:Ex){H:Heap}{S:Nat→Prop}{cs:List Value}(te:Thin e)(h:RE H S e cs)(hlen:(placesE e).length≤100000) :
  ∃ v H',(run Tryd.prog E).call 23 [.agg ⟨cs⟩] H=some (.val v,H')∧IntsAt H' v (placesE e)∧Same (fun _=>False) H H':=by
 have kP:Same (fun _=>False) H (H.push (.row true 0 1 cs)):=Same.push _ _ _
 have h2:=RE.move kP (S':=S) (fun i hi _=>⟨hi,fun h=>h⟩) _ _ h
 obtain⟨o,H',e1,v,rfl,hI,k,_⟩:=places_run hE _ e (Nat.lt_succ_self _) _ S cs (.slice none 0 0) [] te h2 (fun i _ h=>h) (.inl ⟨rfl,rfl⟩) (by simpa using hlen)
 refine⟨v,H',?_,hI,kP.then k (fun i hi=>hi.elim)⟩
 suffices key:Gives ((run Tryd.prog E).call 23 [.agg ⟨cs⟩] H) fun o H2=>o = .val v∧H2=H' by
  obtain⟨o,H2,e,rfl,rfl⟩:=key
  exact e
 obtain⟨a,b,c,d,x,w,rfl,hw1,hw2⟩:=h.six
 obtain⟨vb,vl,vc,rfl⟩:∃ b l c,v = .slice b l c:=by rcases hI with⟨rfl,_⟩ | ⟨_,_,rfl,_⟩<;>exact⟨_,_,_,rfl⟩
 rw[c_ExprPlaces hE,callB,bodyOf]
 simp[Tryd.f23,hw1,hw2,e1]
theorem ints_run {a b:List Int}{H:Heap}{v w:Value}(ha:IntsAt H v a)(hb:IntsAt H w b)(hla:a.length≤100000)(hlb:b.length≤100000) :
  (run Tryd.prog E).call 22 [v,w] H=some (.val (.bool (decide (a=b))),H):=by
 suffices key:Gives ((run Tryd.prog E).call 22 [v,w] H) fun o H'=>o = .val (.bool (decide (a=b)))∧H'=H by
  obtain⟨o,H',e,rfl,rfl⟩:=key
  exact e
 obtain⟨x1,rfl⟩:∃ x1,v = .slice x1 a.length a.length:=by rcases ha with⟨rfl,rfl⟩ | ⟨id,tl,rfl,_⟩<;>exact⟨_,rfl⟩
 obtain⟨x2,rfl⟩:∃ x2,w = .slice x2 b.length b.length:=by rcases hb with⟨rfl,rfl⟩ | ⟨id,tl,rfl,_⟩<;>exact⟨_,rfl⟩
 rw[c_Ints hE,callB,bodyOf]
 by_cases hlen:¬a.length=b.length
 · have hne:¬a=b:=fun h=>hlen (by rw[h])
   simp[Tryd.f22,show ¬(a.length:Int)=b.length by omega,hne,hlen]
 have hlen:a.length=b.length:=by omega
 simp[Tryd.f22,hlen]
 refine loop_wp (fun m t K=>∃ i:Nat,i+m=b.length∧rd t 5 = .int .i64 i∧K=H∧∀ j (h:j<a.length) (h':j<b.length),j<i→a[j]=b[j]) b.length ?_ ?_
 · exact⟨0,by omega,by simp,rfl,fun j _ _ h=>by omega⟩
 rintro m t K hk ⟨i,hm,g5,rfl,hj⟩
 have ht:t.length=26:=hk.1.trans (by simp[len_Bs])
 have hh:=hk.all [0,1] (by decide +kernel)
 simp at hh
 obtain⟨u0,u1⟩:=hh
 rcases Nat.lt_or_ge i b.length with hi | hi
 · have hia:i<a.length:=by omega
   rcases ha with⟨e1,rfl⟩ | ⟨id1,tl1,e1,_,g1⟩
   · simp at hia
   rcases hb with⟨e2,rfl⟩ | ⟨id2,tl2,e2,_,g2⟩
   · simp at hi
   simp only[Value.slice.injEq]at e1 e2
   obtain⟨rfl,_,_⟩:=e1
   obtain⟨rfl,_,_⟩:=e2
   have hw:=wrap64 ((i:Int)+1) (by omega) (by omega)
   simp[ht,u0,u1,g5,hi]
   refine region_quiet (by exact q_ints) ?_
   by_cases hs:a[i]=b[i]
   · simp[ht,u0,u1,g5,hi,hia,g1,g2,hw,← hlen,hs]
     refine⟨m - 1,by omega,i+1,by omega,by simp[ht],fun j h h' hlt => ?_⟩
     rcases Nat.lt_or_ge j i with h3 | h3
     · exact hj j (by omega) (by omega) h3
     · obtain rfl:j=i:=by omega
       exact hs
   · have hne:¬a=b:=fun h=>hs (by subst h;rfl)
     simp[ht,u0,u1,g5,hi,hia,g1,g2,← hlen,hs,hne]
 · have he:a=b:=List.ext_getElem hlen fun j h h'=>hj j h h' (by omega)
   simp[ht,u0,u1,g5,show ¬i<b.length by omega,he]
end
end Go.Vm.Parse
namespace Go.Vm
open Go Go.Proofs
variable {P:Program}
theorem equal_int {t:TypeId}{k:IntKind} {sg}(h:P.underlying t=some (.int sg))(d:Nat)(a c:Int):pureRun P (Op.equalIn (d+1) t (.int k a) (.int k c))=some (a == c):=by
 unfold Op.equalIn
 rw[pureRun_bind _ _ _ (pureRun_underlying h)]
 simp
theorem equal_string {t:TypeId}(h:P.underlying t=some .string)(d:Nat)(a c:ByteArray):pureRun P (Op.equalIn (d+1) t (.string a) (.string c))=some (a == c):=by
 unfold Op.equalIn
 rw[pureRun_bind _ _ _ (pureRun_underlying h)]
 rfl
theorem part_one {t:TypeId}{cs:Array Value}{off:Nat}{v:Value}{d:TypeDesc}(h:P.underlying t=some d)(hd:(match d with | .struct _ | .array _ _=>true | _=>false)=false)(hv:cs[off]? = some v):pureRun P (part t cs off)=some v:=by
 unfold part
 have e:pureRun P (isAgg t)=some false:=by
  unfold isAgg
  rw[pureRun_bind _ _ _ (pureRun_underlying h)]
  cases d<;>first | rfl | cases hd
 rw[pureRun_bind _ _ _ e]
 simp[hv]
def cellEq (d:Option TypeDesc):Option Value→Option Value→Option Bool
 | some (.int k a),some (.int k' b)=>match d with | some (.int _)=>if k=k' then some (decide (a=b))else none | _=>none
 | some (.string a),some (.string b)=>match d with | some .string=>some (decide (a=b)) | _=>none
 | _,_=>none
def fieldsEq (P:Program)(xs ys:List Value):List Field→Option Bool
 | []=>some true
 | f :: fs => if f.name ≠ "_" then (match cellEq (P.underlying f.type) xs[f.offset]? ys[f.offset]? with
  | some true=>fieldsEq P xs ys fs
  | some false=>some false
  | none=>none)else fieldsEq P xs ys fs
theorem cell_eq {t:TypeId}{xs ys:Array Value}{off:Nat}{r:Bool}(h:cellEq (P.underlying t) xs[off]? ys[off]? = some r)(d:Nat) :
  ∃ v u,pureRun P (part t xs off)=some v∧pureRun P (part t ys off)=some u∧pureRun P (Op.equalIn (d+1) t v u)=some r:=by
 unfold cellEq at h
 split at h
 · rename_i k a k' b h1 h2
   split at h
   · rename_i d1 s hu
     split at h
     · rename_i hk
       subst hk
       cases h
       refine⟨_,_,part_one hu rfl h1,part_one hu rfl h2,?_⟩
       rw[equal_int hu]
       rfl
     · cases h
   · cases h
 · rename_i a b h1 h2
   split at h
   · rename_i hu
     cases h
     refine⟨_,_,part_one hu rfl h1,part_one hu rfl h2,?_⟩
     rw[equal_string hu]
     congr 1
     obtain⟨x⟩:=a
     obtain⟨y⟩:=b
     show (x == y)=_
     by_cases h:x=y
     · subst h;simp
     · rw[decide_eq_false (fun e=>h (by cases e;rfl))]
       simpa using h
   · cases h
 · cases h
theorem loop_eq {xs ys:Array Value}{d:Nat}:∀ {fs:List Field}{r:Bool},fieldsEq P xs.toList ys.toList fs=some r →
  pureRun P (forIn fs ((none,()):Option Bool × Unit) fun f __s =>
      if f.name ≠ "_" then do
       let __do_lift ← part f.type xs f.offset
       let __do_lift_1 ← part f.type ys f.offset
       let __do_lift ← Op.equalIn (d+1) f.type __do_lift __do_lift_1
       if (!__do_lift)=true then pure (ForInStep.done (some false,()))else pure (ForInStep.yield (none,()))
      else pure (ForInStep.yield (none,())))=some (if r=true then (none,())else (some false,()))
 | [], r, h => by
  cases h
  rfl
 | f :: fs, r, h => by
  rw[List.forIn_cons]
  simp only[fieldsEq]at h
  split at h
  · rename_i hn
    rw[if_pos hn]
    split at h
    · rename_i hc
      simp only[Array.getElem?_toList]at hc
      obtain⟨v,u,h1,h2,h3⟩:=cell_eq hc d
      rw[pureRun_bind (a:=ForInStep.yield (none,()))]
      · exact loop_eq h
      · rw[pureRun_bind _ _ _ h1,pureRun_bind _ _ _ h2,pureRun_bind _ _ _ h3];rfl
    · rename_i hc
      simp only[Array.getElem?_toList]at hc
      cases h
      obtain⟨v,u,h1,h2,h3⟩:=cell_eq hc d
      rw[pureRun_bind (a:=ForInStep.done (some false,()))]
      · rfl
      · rw[pureRun_bind _ _ _ h1,pureRun_bind _ _ _ h2,pureRun_bind _ _ _ h3];rfl
    · cases h
  · rename_i hn
    rw[if_neg hn]
    rw[pureRun_bind (a:=ForInStep.yield (none,())) _ _ rfl]
    exact loop_eq h
theorem equal_struct {t:TypeId}{fs:List Field}(h:P.underlying t=some (.struct ⟨fs⟩))(hs:P.stoodInHeld t=false){xs ys:Array Value}{r:Bool}(he:fieldsEq P xs.toList ys.toList fs=some r):pureRun P (Op.equal t (.agg xs) (.agg ys))=some r:=by
 unfold Op.equal
 show pureRun P (Op.equalIn (9998+1+1) t (.agg xs) (.agg ys))=_
 unfold Op.equalIn
 rw[pureRun_bind _ _ _ (pureRun_underlying h)]
 simp only[]
 rw[pureRun_bind (a:=P) _ _ rfl]
 rw[if_neg (by rw[hs];simp)]
 rw[List.forIn_toArray,pureRun_bind _ _ _ (loop_eq he)]
 cases r<;>rfl
theorem bin_struct {t:TypeId}{x y:Operand}{fs:List Field}(h:P.underlying t=some (.struct ⟨fs⟩))(hs:P.stoodInHeld t=false)(hg:P.eqGuardType P.depth t=false){xs ys:List Value}{r:Bool}(hx:ground (.agg ⟨xs⟩)=true)(hy:ground (.agg ⟨ys⟩)=true)
  (he:fieldsEq P xs ys fs=some r):exBin P .eql t x y (.agg ⟨xs⟩) (.agg ⟨ys⟩)=some (.bool r)∧exBin P .neq t x y (.agg ⟨xs⟩) (.agg ⟨ys⟩)=some (.bool (!r)):=by
 have e:=equal_struct h hs (xs:=⟨xs⟩) (ys:=⟨ys⟩) he
 have g:∀ op,pureRun P (eqGuard op t x y (.agg ⟨xs⟩) (.agg ⟨ys⟩))=some ():=fun op=>by
  unfold eqGuard
  cases op<;>first | rfl | (simp only[];simp;rw[pureRun_bind (a:=P) _ _ rfl,pureRun_bind (a:=P) _ _ rfl,if_pos hg];rfl)
 constructor
 · simp only[exBin,hx,hy,Bool.and_self]
   rw[pureRun_bind _ _ _ (g .eql)]
   show ifGround (pureRun P (do pure (.bool (← Op.equal t (.agg ⟨xs⟩) (.agg ⟨ys⟩)))))=_
   rw[pureRun_bind _ _ _ e]
   rfl
 · simp only[exBin,hx,hy,Bool.and_self]
   rw[pureRun_bind _ _ _ (g .neq)]
   show ifGround (pureRun P (do pure (.bool (!(← Op.equal t (.agg ⟨xs⟩) (.agg ⟨ys⟩))))))=_
   rw[pureRun_bind _ _ _ e]
   rfl
end Go.Vm
namespace Go.Vm.Parse
open Go Go.Proofs
noncomputable def fsOf (t:TypeId):List Field:=match Tryd.prog.underlying t with | some (.struct ⟨fs⟩)=>fs | _=>[]
theorem und_fault:Tryd.prog.underlying 28=some (.struct ⟨fsOf 28⟩):=by kernel_rfl
theorem held_fault:Tryd.prog.stoodInHeld 28=false:=by kernel_rfl
theorem gt_fault:Tryd.prog.eqGuardType Tryd.prog.depth 28=false:=by kernel_rfl
theorem fe_fault (a b c d:Int):fieldsEq Tryd.prog [.int .i64 a,.int .i64 b] [.int .i64 c,.int .i64 d] (fsOf 28)=some (decide (a=c) && decide (b=d)):=by
 have e:fieldsEq Tryd.prog [.int .i64 a,.int .i64 b] [.int .i64 c,.int .i64 d] (fsOf 28)=(match some (decide (a=c))with | some true=>(match some (decide (b=d))with | some true=>some true | some false=>some false | none=>none) | some false=>some false | none=>none):=by kernel_rfl
 rw[e]
 cases decide (a=c)<;>cases decide (b=d)<;>rfl
theorem fault_eql (x y:Operand)(a b c d:Int):exBin Tryd.prog .eql 28 x y (.agg ⟨[.int .i64 a,.int .i64 b]⟩) (.agg ⟨[.int .i64 c,.int .i64 d]⟩)=some (.bool (decide (a=c) && decide (b=d))) :=
 (bin_struct und_fault held_fault gt_fault rfl rfl (fe_fault a b c d)).1
theorem lexStep_to {src:List UInt8}{a:Nat}(h:a<src.length){c:UInt8}{to:Nat}{t:Option Tk}(e:lexStep src a c = .more to t):a<to∧to≤src.length:=by
 have sp:∀ p,a+1≤spanTo p src (a+1)∧spanTo p src (a+1)≤src.length:=fun p=>spanTo_le (by omega)
 unfold lexStep at e
 split at e
 · cases e;omega
 split at e
 · split at e
   · cases e
   · rename_i h2;cases e;have:=sp (fun b => !decide (b.toNat=125));omega
 split at e
 · cases e;omega
 split at e
 · have:=sp nameB
   split at e
   · cases e;omega
   split at e
   · cases e
   · cases e;omega
 split at e
 · have:=sp digitB
   split at e
   · cases e
   · cases e;omega
 split at e
 · cases e
 · rename_i h2
   cases e
   have h3:=signP_le (src.drop a)
   rw[List.length_drop]at h3
   omega
theorem lex_ans (src:List UInt8):∀ n a out,a≤src.length→src.length<a+n→∃ r,lexFrom src n a out=some r
 | 0,a,out,h1,h2=>by omega
 | n + 1, a, out, h1, h2 => by
  rw[lexFrom]
  split
  · rename_i h
    cases e:lexStep src a src[a]with
    | bad c p=>exact⟨_,rfl⟩
    | more to t =>
     have:=lexStep_to h e
     cases t with
     | none=>exact lex_ans src n to out (by omega) (by omega)
     | some t=>exact lex_ans src n to (out++[t]) (by omega) (by omega)
  · exact⟨_,rfl⟩
theorem lexFrom_len {src:List UInt8}:∀ {n a:Nat}{out l:List Tk},lexFrom src n a out=some (.inl l)→l.length≤out.length+n
 | 0,_,_,_,h=>by cases h
 | n + 1, a, out, l, h => by
  rw[lexFrom]at h
  split at h
  · split at h
    · cases h
    · have:=lexFrom_len h;omega
    · have:=lexFrom_len h;simp at this;omega
  · cases h;simp
theorem lexFrom_pos {src:List UInt8}:∀ {n a:Nat}{out l:List Tk},lexFrom src n a out=some (.inl l)→1≤l.length
 | 0,_,_,_,h=>by cases h
 | n + 1, a, out, l, h => by
  rw[lexFrom]at h
  split at h
  · split at h
    · cases h
    · exact lexFrom_pos h
    · exact lexFrom_pos h
  · cases h;simp
theorem lexFrom_bad {src:List UInt8}:∀ {n a:Nat}{out:List Tk}{c p:Int},lexFrom src n a out=some (.inr (c,p))→c≠0
 | 0,_,_,_,_,h=>by cases h
 | n + 1, a, out, c, p, h => by
  rw[lexFrom]at h
  split at h
  · split at h
    · rename_i e
      cases h
      unfold lexStep at e
      split at e
      · cases e
      · split at e
        · split at e
          · cases e;omega
          · cases e
        · split at e
          · cases e
          · split at e
            · split at e
              · cases e
              · split at e
                · cases e;omega
                · cases e
            · split at e
              · split at e
                · cases e;omega
                · cases e
              · split at e
                · cases e;omega
                · cases e
    · exact lexFrom_bad h
    · exact lexFrom_bad h
  · cases h
inductive LT where
 | more (k:Nat) (t:Option Tk)
 | bad (c a:Int)
def stepL (c:UInt8)(l:List UInt8)(a:Nat):LT :=
 if c.toNat=32∨c.toNat=9∨c.toNat=10∨c.toNat=13 then .more 1 none
 else if c.toNat=123 then
  if (l.takeWhile fun b => !decide (b.toNat=125)).length=l.length then .bad 11 a else .more ((l.takeWhile fun b => !decide (b.toNat=125)).length+2) none
 else if c.toNat=80∨c.toNat=86 then .more 1 (some ⟨3,a,0,⟨⟨[c]⟩⟩⟩)
 else if letterB c=true then
  if isWord ⟨⟨c :: l.takeWhile nameB⟩⟩=true then .more ((l.takeWhile nameB).length+1) (some ⟨3,a,0,⟨⟨c :: l.takeWhile nameB⟩⟩⟩)
  else if 12<(l.takeWhile nameB).length+1 then .bad 12 a
  else .more ((l.takeWhile nameB).length+1) (some ⟨1,a,0,⟨⟨c :: l.takeWhile nameB⟩⟩⟩)
 else if digitB c=true then
  match numFrom (c :: l.takeWhile digitB) 0 with
  | none => .bad 13 a
  | some n => .more ((l.takeWhile digitB).length+1) (some ⟨2,a,n,ByteArray.empty⟩)
 else if signP (c :: l)=0 then .bad 11 a
 else .more (signP (c :: l)) (some ⟨4,a,0,⟨⟨(c :: l).take (signP (c :: l))⟩⟩⟩)
def LT.at_ (a:Nat):LT→LS
 | .more k t => .more (a+k) t
 | .bad c p => .bad c p
theorem take_while (p:UInt8→Bool)(l:List UInt8):l.take (l.takeWhile p).length=l.takeWhile p:=(List.prefix_iff_eq_take.1 (List.takeWhile_prefix p)).symm
theorem lexStep_L {src:List UInt8}{a:Nat}{c:UInt8}{l:List UInt8}(h:src.drop a=c :: l):lexStep src a c=(stepL c l a).at_ a:=by
 have h1:src.drop (a+1)=l:=by rw[← List.drop_drop,h];rfl
 have hlen:src.length=a+1+l.length:=by
  have:=congrArg List.length h
  simp at this
  omega
 have hs:∀ p,spanTo p src (a+1)=a+((l.takeWhile p).length+1):=fun p=>by unfold spanTo;rw[h1];omega
 have hc:∀ p,cutB src a (a+((l.takeWhile p).length+1))=⟨⟨c :: l.takeWhile p⟩⟩:=fun p=>by
  unfold cutB
  rw[h,show a+((l.takeWhile p).length+1) - a=(l.takeWhile p).length+1 by omega,List.take_succ_cons,take_while]
 have hc1:cutB src a (a+1)=⟨⟨[c]⟩⟩:=by
  unfold cutB
  rw[h,show a+1 - a=1 by omega];rfl
 have hc2:∀ k,cutB src a (a+k)=⟨⟨(c :: l).take k⟩⟩:=fun k=>by
  unfold cutB
  rw[h,show a+k - a=k by omega]
 unfold lexStep stepL
 by_cases c1:c.toNat=32∨c.toNat=9∨c.toNat=10∨c.toNat=13
 · rw[if_pos c1,if_pos c1];rfl
 rw[if_neg c1,if_neg c1]
 by_cases c2:c.toNat=123
 · rw[if_pos c2,if_pos c2,hs]
   by_cases c3:(l.takeWhile fun b => !decide (b.toNat=125)).length=l.length
   · rw[if_pos (by omega),if_pos c3];rfl
   · rw[if_neg (by omega),if_neg c3];rfl
 rw[if_neg c2,if_neg c2]
 by_cases c3:c.toNat=80∨c.toNat=86
 · rw[if_pos c3,if_pos c3,hc1];rfl
 rw[if_neg c3,if_neg c3]
 by_cases c4:letterB c=true
 · rw[if_pos c4,if_pos c4,hs,hc]
   by_cases c5:isWord ⟨⟨c :: l.takeWhile nameB⟩⟩=true
   · rw[if_pos c5,if_pos c5];rfl
   rw[if_neg c5,if_neg c5]
   by_cases c6:12<(l.takeWhile nameB).length+1
   · rw[if_pos (by omega),if_pos c6];rfl
   · rw[if_neg (by omega),if_neg c6];rfl
 rw[if_neg c4,if_neg c4]
 by_cases c5:digitB c=true
 · rw[if_pos c5,if_pos c5,hs,h,show a+((l.takeWhile digitB).length+1) - a=(l.takeWhile digitB).length+1 by omega,List.take_succ_cons,take_while]
   cases numFrom (c :: l.takeWhile digitB) 0<;>rfl
 rw[if_neg c5,if_neg c5,h]
 by_cases c6:signP (c :: l)=0
 · rw[if_pos c6,if_pos c6];rfl
 · rw[if_neg c6,if_neg c6,hc2];rfl
def Lx (l:List UInt8)(a:Nat)(toks:List Tk):Prop:=∀ src out n,src.drop a=l→a≤src.length→src.length<a+n→lexFrom src n a out=some (.inl (out++toks))
theorem Lx.nil (a:Nat):Lx [] a [⟨5,a,0,ByteArray.empty⟩]:=by
 intro src out n h1 h2 h3
 have:=congrArg List.length h1
 simp at this
 obtain⟨m,rfl⟩:∃ m,n=m+1:=⟨n - 1,by omega⟩
 rw[lexFrom,dif_neg (by omega),show src.length=a by omega]
theorem Lx.step {c:UInt8}{l:List UInt8}{a k:Nat}{t:Option Tk}{toks:List Tk}(e:stepL c l a = .more k t)(h:Lx ((c :: l).drop k) (a+k) toks):Lx (c :: l) a (t.toList++toks):=by
 intro src out n h1 h2 h3
 obtain⟨m,rfl⟩:∃ m,n=m+1:=⟨n - 1,by have:=congrArg List.length h1;simp at this;omega⟩
 have hlt:a<src.length:=by have:=congrArg List.length h1;simp at this;omega
 have hc:src[a]=c:=by
  have e2:=List.drop_eq_getElem_cons hlt
  rw[h1]at e2
  injection e2 with e3;exact e3.symm
 have es:=lexStep_L h1
 rw[e]at es
 have hb:=lexStep_to hlt es
 have hd:src.drop (a+k)=(c :: l).drop k:=by rw[← h1,List.drop_drop]
 rw[lexFrom,dif_pos hlt,hc,es]
 cases t with
 | none=>exact h src out m hd hb.2 (by omega)
 | some t =>
  have:=h src (out++[t]) m hd hb.2 (by omega)
  rw[List.append_assoc]at this
  exact this
theorem Lx.all {src:List UInt8}{toks:List Tk}(h:Lx src 0 toks):lexFrom src (src.length+1) 0 []=some (.inl toks):=h src [] _ rfl (Nat.zero_le _) (by omega)
theorem takeWhile_app {p:UInt8→Bool}:∀ {w l:List UInt8},(∀ x∈w,p x=true)→l.takeWhile p=[]→(w++l).takeWhile p=w
 | [],l,_,h=>h
 | x :: w, l, hw, h => by
  rw[List.cons_append,List.takeWhile_cons,if_pos (hw x (by simp)),takeWhile_app (fun y hy=>hw y (by simp[hy])) h]
theorem Lx.name {c:UInt8}{w l:List UInt8}{a:Nat}{toks:List Tk}(k:Int)(hc:letterB c=true)(hw:∀ x∈w,nameB x=true)(hl:l.takeWhile nameB=[])(hk:if isWord ⟨⟨c :: w⟩⟩=true then k=3 else (w.length<12∧k=1))
  (h:Lx l (a+(w.length+1)) toks):Lx (c :: (w++l)) a (⟨k,a,0,⟨⟨c :: w⟩⟩⟩ :: toks):=by
 refine Lx.step (t:=some ⟨k,a,0,⟨⟨c :: w⟩⟩⟩) (k:=w.length+1) ?_ (by rw[List.drop_succ_cons,List.drop_left];exact h)
 have hd:97≤c.toNat∧c.toNat≤122:=by unfold letterB at hc;simpa using hc
 unfold stepL
 rw[if_neg (by omega),if_neg (by omega),if_neg (by omega),if_pos hc,takeWhile_app hw hl]
 split at hk
 · rename_i hi;subst hk;rw[if_pos hi]
 · rename_i hi;obtain⟨h1,rfl⟩:=hk;rw[if_neg hi,if_neg (by omega)]
end Go.Vm.Parse
namespace Go.Vm.Ex
open Go Go.Proofs Go.Vm.Parse
attribute [local simp] repCells_succ writeAt rd_Fr toList_beq gpe gpn spe gse gsn ne_r0 ne_l0 le_s0 ne_r1 ne_l1 lt_s1 le_s1 ne_r2 ne_l2 lt_s2 le_s2 ne_r3 ne_l3 lt_s3 le_s3 ne_r4 ne_l4 lt_s4 le_s4 ne_r5 ne_l5 lt_s5 le_s5 ne_r6 ne_l6 lt_s6 le_s6 ne_r7 ne_l7 lt_s7 le_s7
def del (s:PS):Nat:=if s.c=0 then 0 else 1
theorem del_must (L:List Tk)(s:PS)(x:ByteArray):s.p+del s≤(mustS L s x).p+del (mustS L s x):=by
 unfold mustS
 split
 · show s.p+del s≤s.p+1+_
   have:del s≤1:=by unfold del;split<;>omega
   omega
 · unfold faultS
   split
   · show s.p+del s≤s.p+_
     rename_i h
     unfold del
     rw[if_pos h];omega
   · exact Nat.le_refl _
theorem del_bad {s:PS}(h:s.c≠0):del s=1:=by unfold del;rw[if_neg h]
theorem del_ok {s:PS}(h:s.c=0):del s=0:=by unfold del;rw[if_pos h]
theorem faultS_p (L:List Tk)(s:PS)(c:Int):(faultS L s c).p=s.p:=by unfold faultS;split<;>rfl
theorem x_size (L:List Tk):∀ n cmd s e s',xP L n cmd s=some (e,s')→match cmd with
  | .loop _ _ x=>(placesE e).length+s.p≤(placesE x).length+s'.p+(if s.c=0 then del s' else 0)
  | _=>(placesE e).length+s.p≤s'.p+del s':=by
 intro n
 induction n with
 | zero=>intro cmd s e s' h;cases h
 | succ n ih =>
  intro cmd s e s' h
  have z:(placesE .zero).length=1:=rfl
  have l0:∀ {a b c d y},(placesE (.mk a b c d y [])).length=1:=by simp[placesE,placesEs]
  have l1:∀ {a b c d y} {x:Ex},(placesE (.mk a b c d y [x])).length=1+(placesE x).length:=by intros;simp[placesE,placesEs];omega
  have l2:∀ {a b c d y} {x x2:Ex},(placesE (.mk a b c d y [x,x2])).length=1+(placesE x).length+(placesE x2).length:=by intros;simp[placesE,placesEs];omega
  have op:∀ {lv:Int},¬(opensS L s lv).c≠0→(opensS L s lv).on.p=s.p+1:=fun {lv} h=>by show (opensS L s lv).p+1=_;rw[opensS_p]
  have opb:∀ {lv:Int},(opensS L s lv).c≠0→1+s.p≤(opensS L s lv).p+del (opensS L s lv):=fun {lv} h=>by rw[opensS_p,del_bad h];omega
  have fb:∀ {c:Int},c≠0→1+s.p≤(faultS L s c).p+del (faultS L s c):=fun {c} h=>by
   rw[faultS_p,del_bad (faultS_le L s h).2];omega
  cases cmd with
  | row k lv =>
   rw[xP]at h
   show (placesE e).length+s.p≤s'.p+del s'
   split at h
   · rename_i hc;cases h;rw[z,del_bad hc];omega
   split at h
   · exact ih _ _ _ _ h
   split at h
   · split at h
     · exact ih _ _ _ _ h
     split at h
     · rename_i ho;cases h;rw[z];exact opb ho
     · rename_i ho
       simp only[Option.map_eq_some_iff]at h
       obtain⟨⟨e1,s1⟩,h1,h2⟩:=h
       dsimp only at h2
       simp only[Prod.mk.injEq,Option.some.injEq]at h2
       obtain⟨rfl,rfl⟩:=h2
       have:=ih _ _ _ _ h1
       simp only[]at this
       rw[op ho]at this
       rw[l1];omega
   · simp only[Option.bind_eq_some_iff]at h
     obtain⟨⟨e1,s1⟩,h1,h2⟩:=h
     dsimp only at h2
     have a:=ih _ _ _ _ h1
     have b:=ih _ _ _ _ h2
     simp only[]at a b
     by_cases hc:s1.c=0
     · rw[if_pos hc]at b;rw[del_ok hc]at a;omega
     · cases n with
       | zero=>cases h2
       | succ n =>
        have ho:opP L s1 k=0:=by
         cases hq:decide (opP L s1 k=0)with
         | true=>simpa using hq
         | false=>exact absurd (opP_lt (by simpa using hq)).1 hc
        rw[xP,if_pos ho]at h2
        simp only[Prod.mk.injEq,Option.some.injEq]at h2
        obtain⟨rfl,rfl⟩:=h2
        exact a
  | loop k lv x =>
   rw[xP]at h
   show (placesE e).length+s.p≤(placesE x).length+s'.p+_
   split at h
   · cases h;omega
   · rename_i ho
     have hc:=(opP_lt ho).1
     rw[if_pos hc]
     simp only[Option.bind_eq_some_iff]at h
     obtain⟨⟨e1,s1⟩,h1,h2⟩:=h
     dsimp only at h2
     have a:=ih _ _ _ _ h1
     simp only[]at a
     have hon:s.on.p=s.p+1:=rfl
     rw[hon]at a
     split at h2
     · cases h2;rw[l2];omega
     · have b:=ih _ _ _ _ h2
       simp only[l2]at b
       by_cases hc1:s1.c=0
       · rw[if_pos hc1]at b;rw[del_ok hc1]at a;omega
       · cases n with
         | zero=>cases h2
         | succ n =>
          have ho:opP L s1 k=0:=by
           cases hq:decide (opP L s1 k=0)with
           | true=>simpa using hq
           | false=>exact absurd (opP_lt (by simpa using hq)).1 hc1
          rw[xP,if_pos ho]at h2
          simp only[Prod.mk.injEq,Option.some.injEq]at h2
          obtain⟨rfl,rfl⟩:=h2
          rw[l2];omega
  | fact lv =>
   rw[xP]at h
   show (placesE e).length+s.p≤s'.p+del s'
   have leaf:∀ {a b c d y},(placesE (.mk a b c d y [])).length+s.p≤s.on.p+del s.on:=by
    intros;rw[l0];show 1+s.p≤s.p+1+_;omega
   split at h
   · split at h
     · rename_i ho;cases h;rw[z];exact opb ho
     · rename_i ho
       simp only[Option.map_eq_some_iff]at h
       obtain⟨⟨e1,s1⟩,h1,h2⟩:=h
       dsimp only at h2
       simp only[Prod.mk.injEq,Option.some.injEq]at h2
       obtain⟨rfl,rfl⟩:=h2
       have:=ih _ _ _ _ h1
       simp only[]at this
       rw[op ho]at this
       rw[l1];omega
   split at h
   · cases h;exact leaf
   split at h
   · cases h;exact leaf
   split at h
   · cases h;exact leaf
   split at h
   · split at h
     · rename_i ho;cases h;rw[z];exact opb ho
     · rename_i ho
       simp only[Option.map_eq_some_iff]at h
       obtain⟨⟨e1,s1⟩,h1,h2⟩:=h
       dsimp only at h2
       simp only[Prod.mk.injEq,Option.some.injEq]at h2
       obtain⟨rfl,rfl⟩:=h2
       have:=ih _ _ _ _ h1
       have h4:=del_must L s1 (b1 41)
       simp only[]at this
       rw[op ho]at this
       show (placesE e1).length+s.p≤_
       omega
   split at h
   · split at h
     · cases h;exact leaf
     · simp only[Option.map_eq_some_iff]at h
       obtain⟨⟨e1,s1⟩,h1,h2⟩:=h
       dsimp only at h2
       simp only[Prod.mk.injEq,Option.some.injEq]at h2
       obtain⟨rfl,rfl⟩:=h2
       have:=ih _ _ _ _ h1
       simp only[]at this
       have hon:s.on.p=s.p+1:=rfl
       rw[hon]at this
       rw[l1];omega
   · cases h;rw[z];exact fb (by omega)
  | index lv =>
   rw[xP]at h
   show (placesE e).length+s.p≤s'.p+del s'
   split at h
   · cases h;rw[z];exact fb (by omega)
   split at h
   · rename_i ho
     cases h
     rw[z,faultS_p,opensS_p]
     unfold faultS
     rw[if_neg ho,del_bad ho];omega
   · rename_i ho
     simp only[Option.map_eq_some_iff]at h
     obtain⟨⟨e1,s1⟩,h1,h2⟩:=h
     dsimp only at h2
     simp only[Prod.mk.injEq,Option.some.injEq]at h2
     obtain⟨rfl,rfl⟩:=h2
     have:=ih _ _ _ _ h1
     have h4:=del_must L s1 (b1 93)
     simp only[]at this
     rw[op ho]at this
     show (placesE e1).length+s.p≤_
     omega
theorem pl_rex0:planOf Tryd.prog (drawN Tryd.f20 0)=some [none,(some (0,1)),(some (0,1)),(some (0,1)),(some (0,1)),none,none,none]:=by decide +kernel
theorem pl_rex1:planOf Tryd.prog (drawN Tryd.f20 1)=some [none,(some (0,1)),(some (0,1)),(some (0,1)),(some (0,1)),(some (0,1)),none,none,none]:=by decide +kernel
section
variable {E:Hooks} (hE:Plain E)
include hE
theorem c_RExpr (args:List Value)(H:Heap):(run Tryd.prog E).call 20 args H=callB Tryd.prog E Tryd.f20 args H:=call_B Tryd.func20 rfl (by decide +kernel) (hE.no _ rfl rfl) args H
theorem c_within2 (args:List Value)(H:Heap):(run Tryd.prog E).call 8 args H=callB Tryd.prog E Tryd.f8 args H:=call_B Tryd.func8 rfl (by decide +kernel) (hE.no _ rfl rfl) args H
theorem ref_walk {H:Heap}{lid tl:Nat}{L:List Tk}{p:Nat}{lv:Int}{n:Nat}{e:Ex}{s:PS}(hL:H.get lid = .row true tl 4 (flatT L))(hsm:L.length≤100000)(hp:p≤L.length)(h0:0≤lv)(h24:lv≤24)
  (hx:xP L n (.row 1 lv) ⟨p,0,0⟩=some (e,s)) :
  Gives ((run Tryd.prog E).call 20 [.slice (some ⟨lid,0,none⟩) L.length L.length,.int .i64 p,.int .i64 lv] H) fun o H'=>RetPar H e s o H'∧s.p≤L.length:=by
 have hl:=Heap.lt_of_get hL (by simp)
 obtain⟨K,hK⟩:∃ K,K=((H.push (.row true 0 1 z6)).push (.row true 0 1 [.int .i64 0,.int .i64 0])).push (.row true 0 1 [.slice (some ⟨lid,0,none⟩) L.length L.length,.int .i64 p,.int .i64 0,.int .i64 0]):=⟨_,rfl⟩
 have nK:K.n=H.n+1+1+1:=by rw[hK];rfl
 have kK:Same (fun _=>False) H K:=by rw[hK];exact ((Same.push _ _ _).then_push _).then_push _
 have hR:RD K (H.n+1+1) lid L ⟨p,0,0⟩:=⟨by rw[hK];exact Heap.get_push_self _ _,⟨tl,kK.at hL (by simp) (fun h=>h)⟩,hsm,hp⟩
 obtain⟨o,K2,e2,cs,rfl,k2,h2,r2⟩:=(x_all hE (r:=H.n+1+1) (lid:=lid) (L:=L) n).1 1 lv ⟨p,0,0⟩ e s hx (by omega) (by omega) h0 h24 K hR
 obtain⟨a,b,c,d,y,b1',m1,c1,rfl⟩:=RE.shape r2
 have n2:=k2.n
 have g0:K2.get H.n = .row true 0 1 z6:=k2.at (by rw[hK,Heap.get_push,if_neg (by simp),Heap.get_push,if_neg (by simp),Heap.get_push_self]) (by simp) (by omega)
 have g1:K2.get (H.n+1) = .row true 0 1 [.int .i64 0,.int .i64 0]:=k2.at (by rw[hK,Heap.get_push,if_neg (by simp)];exact Heap.get_push_self _ _) (by simp) (by omega)
 have h3:=h2.same (Same.push (fun _=>False) K2 (.row true 0 1 [.int .i64 a,.int .i64 b,.int .i64 c,.int .i64 d,.string y,.slice b1' m1 c1]))
 have hbad:=bad_run hE h3
 have hobj:=h3.obj
 have hobj2:=h2.obj
 have hpl:=h2.place
 have k3:Same (fun i=>i=H.n+1+1) K (K2.push (.row true 0 1 [.int .i64 a,.int .i64 b,.int .i64 c,.int .i64 d,.string y,.slice b1' m1 c1])):=k2.then_push _
 have kEnd:∀ o1 o2,Same (fun _=>False) H (((K2.push (.row true 0 1 [.int .i64 a,.int .i64 b,.int .i64 c,.int .i64 d,.string y,.slice b1' m1 c1])).set H.n o1).set (H.n+1) o2):=fun o1 o2 =>
  ((kK.then k3 (fun i hi => .inr (by omega))).then_set (by simp;omega) (.inr (by omega)) o1).then_set (by simp;omega) (.inr (by omega)) o2
 rw[c_RExpr hE,callB,bodyOf]
 unfold RetPar
 by_cases hc:s.c=0
 · have kM:Same (fun i=>i=H.n∨i=H.n+1) K2 (((K2.push (.row true 0 1 [.int .i64 a,.int .i64 b,.int .i64 c,.int .i64 d,.string y,.slice b1' m1 c1])).set H.n (.row true 0 1 [.int .i64 a,.int .i64 b,.int .i64 c,.int .i64 d,.string y,.slice b1' m1 c1])).set (H.n+1) (.row true 0 1 [.int .i64 0,.int .i64 0])) :=
    ((Same.none (Same.push _ _ _)).then_set (by simp;omega) (.inl (.inl rfl)) _).then_set (by simp;omega) (.inl (.inr rfl)) _
   have fin:=RE.up (n:=H.n) r2 kM (by omega) (fun i hi=>by omega)
   simp only[hc,if_true]
   simp only[z6,hc]at *
   simp[Tryd.f20]
   rw[← hK]
   simp[e2,hbad,g0,g1,show H.n<K2.n by omega]
   refine region_plan (by exact pl_rex1) ?_
   simp[hobj,hobj2,g0,g1,show H.n<K2.n by omega,show H.n+1<K2.n by omega,show H.n+1+1<K2.n by omega,show ¬H.n=K2.n by omega,show ¬H.n+1=K2.n by omega,show ¬H.n+1+1=K2.n by omega]
   exact⟨⟨kEnd _ _,fin⟩,hpl⟩
 · simp only[hc,if_false]
   simp only[z6]at *
   simp[Tryd.f20]
   rw[← hK]
   simp[e2,hbad,hc,g0,g1,show H.n<K2.n by omega]
   refine region_plan (by exact pl_rex0) ?_
   simp[hobj,hobj2,g0,g1,show H.n<K2.n by omega,show H.n+1<K2.n by omega,show H.n+1+1<K2.n by omega,show ¬H.n=K2.n by omega,show ¬H.n+1=K2.n by omega,show ¬H.n+1+1=K2.n by omega]
   exact⟨kEnd _ _,hpl⟩
theorem within_any {x:Int}(hx:Lit.wf (.int .i64 x)=true)(lo hi:Int)(h0:0≤lo)(h1:lo≤hi)(h2:hi≤1000000) :
  ∃ k:Nat,lo≤k∧(k:Int)≤hi∧∀ H,(run Tryd.prog E).call 8 [.int .i64 x,.int .i64 lo,.int .i64 hi] H=some (.val (.int .i64 k),H):=by
 suffices key:∃ k:Nat,lo≤k∧(k:Int)≤hi∧∀ H,Gives ((run Tryd.prog E).call 8 [.int .i64 x,.int .i64 lo,.int .i64 hi] H) fun o H'=>o = .val (.int .i64 k)∧H'=H by
  obtain⟨k,h3,h4,h5⟩:=key
  refine⟨k,h3,h4,fun H => ?_⟩
  obtain⟨o,H',e,rfl,rfl⟩:=h5 H
  exact e
 have w1:IntKind.i64.wrap (hi - lo)=hi - lo:=wrap64 _ (by omega) (by omega)
 have w2:IntKind.i64.wrap (hi - lo+1)=hi - lo+1:=wrap64 _ (by omega) (by omega)
 have hb : -(hi - lo+1)<x.tmod (hi - lo+1)∧x.tmod (hi - lo+1)<hi - lo+1:=by
  have h1:=Int.tmod_lt_of_pos x (show (0:Int)<hi - lo+1 by omega)
  have h2:=Int.neg_tmod x (hi - lo+1)
  have h3:=Int.tmod_lt_of_pos (-x) (show (0:Int)<hi - lo+1 by omega)
  omega
 have hr:=fun ty a b=>bin_rem (P:=Tryd.prog) ty a b .i64 x (hi - lo+1) (by omega)
 generalize x.tmod (hi - lo+1)=y at hb hr
 by_cases hy:y<0
 · have w3:IntKind.i64.wrap (y+hi)=y+hi:=wrap64 _ (by omega) (by omega)
   have w4:IntKind.i64.wrap (y+hi - lo)=y+hi - lo:=wrap64 _ (by omega) (by omega)
   have w5:IntKind.i64.wrap (y+hi - lo+1)=y+hi - lo+1:=wrap64 _ (by omega) (by omega)
   have w6:IntKind.i64.wrap (lo+(y+hi - lo+1))=lo+(y+hi - lo+1):=wrap64 _ (by omega) (by omega)
   refine⟨(lo+(y+hi - lo+1)).toNat,by omega,by omega,fun H => ?_⟩
   rw[c_within2 hE,callB,bodyOf]
   simp[Tryd.f8,w1,w2,hr,hy,w3,w4,w5,w6]
   omega
 · have w6:IntKind.i64.wrap (lo+y)=lo+y:=wrap64 _ (by omega) (by omega)
   refine⟨(lo+y).toNat,by omega,by omega,fun H => ?_⟩
   rw[c_within2 hE,callB,bodyOf]
   simp[Tryd.f8,w1,w2,hr,hy,w6]
   omega
end
end Go.Vm.Ex
namespace Go.Vm.ExprLaw
open Go Go.Proofs
theorem mixed:Tryd.prog.follows .mixedOrders=true:=by kernel_rfl
theorem awake_tree:isTrueOut ((runsT Tryd.prog noHooks 5000).call 5 [] Heap.empty)=true:=by decide +kernel
theorem awake_runs:isTrueOut ((runs Tryd.prog noHooks 5000).call 5 [] Heap.empty)=true:=tree_call awake_tree
def E1:Hooks:=pureHooks fun f args=>match f,args with | 5,[]=>some (.bool true) | _,_=>none
theorem E1_ok (N:Th)(W0:World):CallOK Tryd.prog N W0 E1.run:=by
 refine pureHooks_ok mixed (E:=noHooks) (fun _ _=>noHooks_ok) ?_ N W0
 intro f args v h _ _
 split at h
 · simp only[Option.some.injEq]at h
   subst h
   obtain⟨H',h⟩:=isTrueOut_some awake_runs
   exact⟨H',run_of_runs h⟩
 · cases h
theorem awake_true (H:Heap):(run Tryd.prog E1).call 5 [] H=some (.val (.bool true),H):=by
 rw[run_call];rfl
end Go.Vm.ExprLaw
namespace Go.Vm.Ex
open Go Go.Proofs Go.Vm.Parse Go.Vm.ExprLaw
attribute [local simp] repCells_succ writeAt rd_Fr toList_beq gpe gpn spe gse gsn ne_r0 ne_l0 le_s0 ne_r1 ne_l1 lt_s1 le_s1 ne_r2 ne_l2 lt_s2 le_s2 ne_r3 ne_l3 lt_s3 le_s3 ne_r4 ne_l4 lt_s4 le_s4 ne_r5 ne_l5 lt_s5 le_s5 ne_r6 ne_l6 lt_s6 le_s6 ne_r7 ne_l7 lt_s7 le_s7
theorem plain_E1:Plain E1:=⟨fun f h1 _=>by
 simp only[E1,pureHooks]
 split
 · cases h1
 · rfl⟩
theorem pl_alike:planOf Tryd.prog (drawN Tryd.f9 0)=some [none,none,none,none,none,none,none,none,none,none,none,none,none,none,none,none,(some (1,1)),none,none,none,none]:=by decide +kernel
theorem RetPar.both {H:Heap}{e:Ex}{s:PS}{o:Out}{H':Heap}(h:RetPar H e s o H'):∃ cs,o = .val (.tuple #[.agg ⟨cs⟩,.int .i64 (if s.c=0 then s.p else 0:Nat),.agg ⟨[.int .i64 (if s.c=0 then 0 else s.c),.int .i64 (if s.c=0 then 0 else s.a)]⟩])∧Same (fun _=>False) H H'∧RE H' (fun i=>H.n≤i) (if s.c=0 then e else .zero) cs:=by
 obtain⟨k,h⟩:=h
 by_cases hc:s.c=0
 · simp only[hc,if_true]at h ⊢
   obtain⟨cs,rfl,h⟩:=h
   exact⟨cs,rfl,k,h⟩
 · simp only[hc,if_false]at h ⊢
   subst h
   exact⟨_,rfl,k,RE.nil _ _ _ _ _ _ _⟩
theorem c_alike (args:List Value)(H:Heap):(run Tryd.prog E1).call 9 args H=callB Tryd.prog E1 Tryd.f9 args H:=call_B Tryd.func9 rfl (by decide +kernel) rfl args H
theorem alike_same {H:Heap}{lid tl:Nat}{L:List Tk}{p:Nat}{lv:Int}(hL:H.get lid = .row true tl 4 (flatT L))(hsm:L.length≤10000)(hp:p≤L.length)(h0:0≤lv)(h24:lv≤24) :
  ∃ H',(run Tryd.prog E1).call 9 [.slice (some ⟨lid,0,none⟩) L.length L.length,.int .i64 p,.int .i64 lv] H=some (.val (.bool true),H')∧Same (fun _=>False) H H':=by
 suffices key:Gives ((run Tryd.prog E1).call 9 [.slice (some ⟨lid,0,none⟩) L.length L.length,.int .i64 p,.int .i64 lv] H) fun o H'=>o = .val (.bool true)∧Same (fun _=>False) H H' by
  obtain⟨o,H',e,rfl,k⟩:=key
  exact⟨H',e,k⟩
 obtain⟨n,⟨e,s⟩,hx⟩:=(row_ans L ⟨p,0,0⟩ lv).some
 obtain⟨o1,H1,e1,hR1⟩:=par_walk plain_E1 hL (by omega) hp h0 h24 hx
 obtain⟨cs1,rfl,k1,r1⟩:=hR1.both
 obtain⟨a1,b1,c1,d1,y1,w1,m1,f1,rfl⟩:=RE.shape r1
 generalize hn:(if s.c=0 then s.p else 0:Nat)=q at *
 generalize hfc:(if s.c=0 then 0 else s.c)=fc at *
 generalize hfa:(if s.c=0 then 0 else s.a)=fa at *
 obtain⟨H2,hH2⟩:∃ H2,H2=(((H1.push (.row true 0 1 [.int .i64 0,.int .i64 0,.int .i64 0,.int .i64 0,.string ByteArray.empty,.slice none 0 0])).push (.row true 0 1 [.int .i64 0,.int .i64 0])).set H1.n (.row true 0 1 [.int .i64 a1,.int .i64 b1,.int .i64 c1,.int .i64 d1,.string y1,.slice w1 m1 f1])).set (H1.n+1) (.row true 0 1 [.int .i64 fc,.int .i64 fa]):=⟨_,rfl⟩
 have k2:Same (fun _=>False) H1 H2:=by rw[hH2];exact (((Same.push _ _ _).then_push _).then_set (by simp) (.inr (Nat.le_refl _)) _).then_set (by simp) (.inr (by omega)) _
 have n2:H2.n=H1.n+1+1:=by rw[hH2];rfl
 obtain⟨o3,H3,e3,hR3,hpl⟩:=ref_walk plain_E1 ((k1.then0 k2).at hL (by simp) (fun h=>h)) (by omega) hp h0 h24 hx
 obtain⟨cs3,rfl,k3,r3⟩:=hR3.both
 simp only[hn,hfc,hfa]at e3
 obtain⟨a3,b3,c3,d3,y3,w3,m3,f3,rfl⟩:=RE.shape r3
 have n3:=k3.n
 have gA:H2.get H1.n = .row true 0 1 [.int .i64 a1,.int .i64 b1,.int .i64 c1,.int .i64 d1,.string y1,.slice w1 m1 f1]:=by rw[hH2,gsn _ (by omega),Heap.get_set_self _ _ (by simp)]
 have gB:H2.get (H1.n+1) = .row true 0 1 [.int .i64 fc,.int .i64 fa]:=by rw[hH2,Heap.get_set_self _ _ (by simp)]
 have gA3:=k3.at gA (by simp) (fun h=>h)
 have gB3:=k3.at gB (by simp) (fun h=>h)
 obtain⟨H4,hH4⟩:∃ H4,H4=(((H3.push (.row true 0 1 [.int .i64 0,.int .i64 0,.int .i64 0,.int .i64 0,.string ByteArray.empty,.slice none 0 0])).push (.row true 0 1 [.int .i64 0,.int .i64 0])).set H3.n (.row true 0 1 [.int .i64 a3,.int .i64 b3,.int .i64 c3,.int .i64 d3,.string y3,.slice w3 m3 f3])).set (H3.n+1) (.row true 0 1 [.int .i64 fc,.int .i64 fa]):=⟨_,rfl⟩
 have k4:Same (fun _=>False) H3 H4:=by rw[hH4];exact (((Same.push _ _ _).then_push _).then_set (by simp) (.inr (Nat.le_refl _)) _).then_set (by simp) (.inr (by omega)) _
 have n4:H4.n=H3.n+1+1:=by rw[hH4];rfl
 have gC:H4.get H3.n = .row true 0 1 [.int .i64 a3,.int .i64 b3,.int .i64 c3,.int .i64 d3,.string y3,.slice w3 m3 f3]:=by rw[hH4,gsn _ (by omega),Heap.get_set_self _ _ (by simp)]
 have gD:H4.get (H3.n+1) = .row true 0 1 [.int .i64 fc,.int .i64 fa]:=by rw[hH4,Heap.get_set_self _ _ (by simp)]
 have gA4:=k4.at gA3 (by simp) (fun h=>h)
 have gB4:=k4.at gB3 (by simp) (fun h=>h)
 have thin:Thin (if s.c=0 then e else .zero):=by
  split
  · exact x_thin L n _ _ _ _ hx (fun k lv x h=>by cases h)
  · exact thin_zero
 have size:(placesE (if s.c=0 then e else .zero)).length≤100000:=by
  have:=x_size L n _ _ _ _ hx
  simp only[]at this
  split
  · rename_i hc;rw[del_ok hc]at this;omega
  · show 1≤100000;omega
 generalize (if s.c=0 then e else .zero)=x at *
 have r4:=RE.move ((k2.then0 k3).then0 k4) (S':=fun i=>H.n≤i) (fun i hi _=>⟨hi,fun h=>h⟩) _ _ r1
 have r5:=RE.move k4 (S':=fun i=>H2.n≤i) (fun i hi _=>⟨hi,fun h=>h⟩) _ _ r3
 obtain⟨o5,H5,e5,rfl,k5⟩:=same_run plain_E1 _ x (Nat.lt_succ_self _) x H4 _ _ _ _ thin thin r4 r5
 rw[sameE_refl]at e5
 have r6:=RE.move k5 (S':=fun i=>H.n≤i) (fun i hi _=>⟨hi,fun h=>h⟩) _ _ r4
 have r7:=RE.move k5 (S':=fun i=>H2.n≤i) (fun i hi _=>⟨hi,fun h=>h⟩) _ _ r5
 have gA5:=k5.at gA4 (by simp) (fun h=>h)
 have gC5:=k5.at gC (by simp) (fun h=>h)
 obtain⟨v6,H6,e6,i6,k6⟩:=all_places plain_E1 x thin r6 size
 have gC6:=k6.at gC5 (by simp) (fun h=>h)
 have gA6:=k6.at gA5 (by simp) (fun h=>h)
 obtain⟨v7,H7,e7,i7,k7⟩:=all_places plain_E1 x thin (RE.move k6 (S':=fun i=>H2.n≤i) (fun i hi _=>⟨hi,fun h=>h⟩) _ _ r7) size
 have i8:IntsAt H7 v6 (placesE x):=i6.imp (fun h=>h) fun ⟨id,tl,q1,q2,q3⟩=>⟨id,tl,q1,q2,k7.at q3 (by simp) (fun h=>h)⟩
 have e8:=ints_run plain_E1 i8 i7 size size
 obtain⟨b6,l6,c6,rfl⟩:∃ b l c,v6 = .slice b l c:=by rcases i6 with⟨rfl,_⟩ | ⟨_,_,rfl,_⟩<;>exact⟨_,_,_,rfl⟩
 obtain⟨b7,l7,c7,rfl⟩:∃ b l c,v7 = .slice b l c:=by rcases i7 with⟨rfl,_⟩ | ⟨_,_,rfl,_⟩<;>exact⟨_,_,_,rfl⟩
 rw[decide_eq_true rfl]at e8
 have gC7:=k7.at gC6 (by simp) (fun h=>h)
 rw[c_alike,callB,bodyOf]
 simp[Tryd.f9,e1]
 rw[← hH2]
 simp[e3]
 rw[← hH4]
 refine region_plan (by exact pl_alike) ?_
 simp[fault_eql,gA4,gB4,gC,gD,e5,gA5,gC5,e6,gC6,gA6,e7,e8,gC7]
 exact (((((k1.trans k2).trans k3).trans k4).trans k5).trans k6).trans k7
theorem flat_bytes {k:Nat}{x:Value}{o:AObj}(fa:FlatArg (isInt .u8) 1 k x o){H:Heap}(hH:H.get k=o) :
  x = .slice none 0 0∨∃ (src:List UInt8) (cap:Nat),x = .slice (some ⟨k,0,none⟩) src.length cap∧BS H k 0 cap src:=by
 obtain⟨base,len,cap,cs,rfl,h1,h2,h3,h4,h5⟩:=fa
 rcases h5 with⟨rfl,rfl,rfl,rfl⟩ | ⟨rfl,rfl⟩
 · exact .inl rfl
 · right
   have hb:∀ cs:List Value,(∀ c∈cs,isInt .u8 c)→∃ src:List UInt8,cs=src.map byteC:=by
    intro cs
    induction cs with
    | nil=>intro _;exact⟨[],rfl⟩
    | cons c cs ih =>
     intro h
     obtain⟨src,hs⟩:=ih fun c hc=>h c (by simp[hc])
     obtain⟨n,hn,h0,h255⟩:=h c (by simp)
     refine⟨UInt8.ofNat n.toNat :: src,?_⟩
     have e0:IntKind.u8.min=0:=rfl
     have e1:IntKind.u8.max=255:=rfl
     rw[e0]at h0
     rw[e1]at h255
     simp only[List.map_cons,byteC,← hs,hn,List.cons.injEq,and_true]
     congr 1
     rw[UInt8.toNat_ofNat']
     omega
   obtain⟨src,rfl⟩:=hb cs h4
   simp at h3
   refine⟨src.take len,cap,?_,false,0,0,_,hH,by simp;omega,by simp;omega,?_⟩
   · simp only[List.length_take,show min len src.length=len by omega]
   · simp only[List.length_take,show min len src.length=len by omega,List.drop_zero,List.map_take]
end Go.Vm.Ex
namespace Go.Vm.Parse
open Go Go.Proofs
theorem bin_cat2 (x y:Operand)(a b:ByteArray)(h:a.size+b.size≤100000):exBin Tryd.prog .add 9 x y (.string a) (.string b)=some (.string (a++b)):=by
 have e:Op.stringOp .add a b=pure (.string (a++b)):=by
  show (if ((a.size+b.size:Nat):Int) > IntKind.i64.max then _ else _)=_
  rw[if_neg (by have:IntKind.i64.max=9223372036854775807:=rfl;omega)]
 simp only[exBin,ground_string,Bool.and_self]
 rw[pureRun_bind _ (eqGuard .add 9 x y (.string a) (.string b)) () rfl]
 show ifGround (pureRun Tryd.prog (Op.stringOp .add a b))=_
 rw[e]
 rfl
end Go.Vm.Parse
namespace Go.Vm
structure Rep (α:Type) where
 k:Nat
 R:Heap→(Nat→Prop)→α→List Value→Prop
 len:∀ {H S a cs},R H S a cs→cs.length=k
 move:∀ {X S S':Nat→Prop} {H H':Heap},Same X H H'→(∀ i,S i→i<H.n→S' i∧¬X i)→∀ a cs,R H S a cs→R H' S' a cs
variable {α:Type}
def Rep.L (ρ:Rep α)(H:Heap)(S:Nat→Prop):List α→List Value→Prop
 | [],cs=>cs=[]
 | a :: l,cs=>∃ c1 c2,cs=c1++c2∧ρ.R H S a c1∧Rep.L ρ H S l c2
theorem Rep.L_len (ρ:Rep α){H:Heap}{S:Nat→Prop}:∀ {l:List α}{cs:List Value},ρ.L H S l cs→cs.length=l.length * ρ.k
 | [],cs,h=>by simp only[Rep.L]at h;subst h;simp
 | a :: l, cs, h => by
  obtain⟨c1,c2,rfl,h1,h2⟩:=h
  have:=Rep.L_len ρ h2
  have:=ρ.len h1
  simp[Nat.add_mul];omega
theorem Rep.L_move (ρ:Rep α){X S S':Nat→Prop}{H H':Heap}(k:Same X H H')(hs:∀ i,S i→i<H.n→S' i∧¬X i):∀ {l:List α}{cs:List Value},ρ.L H S l cs→ρ.L H' S' l cs
 | [],cs,h=>h
 | a :: l, cs, h => by
  obtain⟨c1,c2,e,h1,h2⟩:=h
  exact⟨c1,c2,e,ρ.move k hs _ _ h1,Rep.L_move ρ k hs h2⟩
theorem Rep.L_snoc (ρ:Rep α){H:Heap}{S:Nat→Prop}{a:α}{c:List Value}(h:ρ.R H S a c):∀ {l:List α}{cs:List Value},ρ.L H S l cs→ρ.L H S (l++[a]) (cs++c)
 | [], cs, h0 => by
  simp only[Rep.L]at h0
  subst h0
  exact⟨c,[],by simp,h,rfl⟩
 | b :: l, cs, h0 => by
  obtain⟨c1,c2,rfl,h1,h2⟩:=h0
  exact⟨c1,c2++c,by simp,h1,Rep.L_snoc ρ h h2⟩
def vid (v:Value)(i:Nat):Prop:=match v with
 | .slice (some a) _ _=>a.block=i
 | _=>False
def Rep.G (ρ:Rep α)(H:Heap)(S:Nat→Prop)(v:Value)(l:List α):Prop :=
 (v = .slice none 0 0∧l=[])∨∃ id tl cs,v = .slice (some ⟨id,0,none⟩) l.length l.length∧tl≤1∧S id∧H.get id = .row true tl ρ.k cs∧ρ.L H (fun i=>S i∧i≠id) l cs
theorem Rep.G_move (ρ:Rep α){X S S':Nat→Prop}{H H':Heap}(k:Same X H H')(hs:∀ i,S i→i<H.n→S' i∧¬X i){v:Value}{l:List α}(h:ρ.G H S v l):ρ.G H' S' v l:=by
 refine h.imp id ?_
 rintro⟨id,tl,cs,h1,h2,h3,h4,h5⟩
 have:=hs id h3 (Heap.lt_of_get h4 (by simp))
 exact⟨id,tl,cs,h1,h2,this.1,k.at h4 (by simp) this.2,ρ.L_move k (fun i hi hl=>⟨⟨(hs i hi.1 hl).1,hi.2⟩,(hs i hi.1 hl).2⟩) h5⟩
theorem Rep.G_lt (ρ:Rep α){H:Heap}{S:Nat→Prop}{v:Value}{l:List α}(h:ρ.G H S v l){i:Nat}(hi:vid v i):i<H.n∧S i:=by
 rcases h with⟨rfl,_⟩ | ⟨id,tl,cs,rfl,h2,h3,h4,h5⟩
 · exact hi.elim
 · have:id=i:=hi
   subst this
   exact⟨Heap.lt_of_get h4 (by simp),h3⟩
theorem Rep.G_empty (ρ:Rep α)(H:Heap){S:Nat→Prop}(hS:S H.n):ρ.G (H.push (.row true 0 ρ.k [])) S (.slice (some ⟨H.n,0,none⟩) 0 0) [] :=
 .inr ⟨H.n,0,[],rfl,by omega,hS,Heap.get_push_self _ _,rfl⟩
theorem Rep.G_app (ρ:Rep α){P:Program}{t:TypeId}(T:TF P t ρ.k){H:Heap}{S:Nat→Prop}{v:Value}{l:List α}(h:ρ.G H S v l)(hS:∀ i,H.n≤i→S i)(hl:l.length≤100000){a:α}{c:List Value}(ha:ρ.R H (fun i=>S i∧¬vid v i) a c) :
  ∃ v' H',exAppend P [t,t] v (.slice (some ⟨H.n,0,none⟩) 1 1) (H.push (.row true 0 ρ.k c))=some (v',H')∧ρ.G H' S v' (l++[a])∧Same (vid v) H H':=by
 have hc:=ρ.len ha
 have hx:(H.push (.row true 0 ρ.k c)).get H.n = .row true 0 ρ.k c:=Heap.get_push_self _ _
 have kp:Same (fun _=>False) H (H.push (.row true 0 ρ.k c)):=Same.push _ _ _
 rcases h with⟨rfl,rfl⟩ | ⟨id,tl,cs,rfl,h2,h3,h4,h5⟩
 · have e:=app_nil T hc hx (xc:=1)
   have k2:Same (fun _=>False) H ((H.push (.row true 0 ρ.k c)).push (.row true 1 ρ.k c)):=kp.then_push _
   refine⟨_,_,e,.inr ⟨_,1,c,rfl,by omega,hS _ (by simp),Heap.get_push_self _ _,?_⟩,k2.mono fun i hi=>hi.elim⟩
   refine⟨c,[],by simp,ρ.move k2 (fun i hi hlt=>⟨⟨hi.1,by simp;omega⟩,fun h=>h⟩) _ _ ha,rfl⟩
 · have hid:=Heap.lt_of_get h4 (by simp)
   have h4':(H.push (.row true 0 ρ.k c)).get id = .row true tl ρ.k cs:=kp.at h4 (by simp) (fun h=>h)
   obtain⟨H',e1,e2,e3,e4⟩:=app_one T h4' (ρ.L_len h5) h2 hc hx hl (xc:=1)
   have k2:Same (fun i=>i=id) H H':=(kp.mono fun i hi=>hi.elim).trans e4
   refine⟨_,H',e1,.inr ⟨_,1,cs++c,?_,by omega,hS _ (by simp),e2,?_⟩,k2.mono fun i hi=>hi.symm⟩
   · simp
   · refine ρ.L_snoc ?_ (ρ.L_move k2 (fun i hi hlt=>⟨⟨hi.1,by simp;omega⟩,hi.2⟩) h5)
     exact ρ.move k2 (fun i hi hlt=>⟨⟨hi.1,by simp;omega⟩,fun e=>hi.2 e.symm⟩) _ _ ha
end Go.Vm
namespace Go.Vm.Parse
open Go Go.Proofs
attribute [local simp] repCells_succ writeAt rd_Fr toList_beq gpe gpn spe gse gsn ne_r0 ne_l0 le_s0 ne_r1 ne_l1 lt_s1 le_s1 ne_r2 ne_l2 lt_s2 le_s2 ne_r3 ne_l3 lt_s3 le_s3 ne_r4 ne_l4 lt_s4 le_s4 ne_r5 ne_l5 lt_s5 le_s5 ne_r6 ne_l6 lt_s6 le_s6 ne_r7 ne_l7 lt_s7 le_s7
structure Itm where
 at_:Int
 name:ByteArray
 n:Int
def repItm:Rep Itm where
 k:=3
 R _ _ x cs:=cs=[.int .i64 x.at_,.string x.name,.int .i64 x.n]
 len h:=by subst h;rfl
 move _ _ _ _ h:=h
def repEx:Rep Ex where
 k:=6
 R:=RE
 len:=RE.len
 move k hs:=RE.move k hs
theorem nameS_on {L:List Tk}{s:PS}(h:(nameS L s).c=0):s.c=0∧nameS L s=s.on:=by
 unfold nameS at h ⊢
 split at h
 · rename_i hc;exact⟨hc.1,by rw[if_pos hc];rfl⟩
 · unfold faultS at h
   split at h
   · simp at h
   · exact absurd h (by assumption)
theorem numS_on {L:List Tk}{s:PS}(h:(numS L s).c=0):s.c=0∧numS L s=s.on:=by
 unfold numS at h ⊢
 split at h
 · rename_i hc;exact⟨hc.1,by rw[if_pos hc];rfl⟩
 · unfold faultS at h
   split at h
   · simp at h
   · exact absurd h (by assumption)
def comma:ByteArray:=⟨#[44]⟩
def itemsL (L:List Tk):Nat→List Itm→Bool→PS→Option (List Itm × PS)
 | 0,_,_,_=>none
 | n + 1, acc, again, s =>
  if again=true∧s.c=0 then
   itemsL L n (acc++[⟨(nameP L s).at_,(nameP L s).name,(numP L (nameS L s)).1⟩]) (isP L (numS L (nameS L s)) comma) (takeS L (numS L (nameS L s)) comma)
  else some (acc,s)
def ItemsI (r lid:Nat)(L:List Tk)(H:Heap)(res:List Itm)(s':PS)(n m:Nat)(t:List Value)(H':Heap):Prop :=
 m≤n∧∃ acc again s v,itemsL L m acc again s=some (res,s')∧rd t 4 = .bool again∧rd t 3=v∧repItm.G H' (fun i=>H.n≤i) v acc∧RD H' r lid L s∧Same (·=r) H H'∧(s.c=0→acc.length≤s.p)
def RetG {α:Type}(ρ:Rep α)(H:Heap)(r lid:Nat)(L:List Tk)(l:List α)(s:PS)(o:Out)(H':Heap):Prop :=
 ∃ v,o = .val v∧Same (·=r) H H'∧RD H' r lid L s∧ρ.G H' (fun i=>H.n≤i) v l
theorem tf_itm:TF Tryd.prog 56 3:=⟨_,_,_,by simp,by simp,by simp;rfl,by omega,by simp;rfl,rfl,by omega,rfl⟩
section
variable {E:Hooks} (hE:Plain E) {r lid:Nat} {L:List Tk}
include hE
theorem items_run {n:Nat}{s s':PS}{l:List Itm}(hx:itemsL L n [] true s=some (l,s')){H:Heap}(h:RD H r lid L s):Gives ((run Tryd.prog E).call 58 [.pointer (some ⟨r,0,none⟩)] H) (RetG repItm H r lid L l s'):=by
 have hr:=h.lt
 have hl:=h.lid_lt
 have hsm:=h.small
 rw[c_items hE,callB,bodyOf]
 simp[Tryd.f58]
 refine loop_wp (ItemsI r lid L H l s' n) n ?_ ?_
 · exact⟨Nat.le_refl n,[],true,s,.slice (some ⟨H.n,0,none⟩) 0 0,hx,by simp,by simp,repItm.G_empty H (Nat.le_refl _),h.same (Same.push _ _ _),Same.push _ _ _,fun _=>by simp⟩
 rintro m t H' hk ⟨hmn,acc,again,s1,v,hxl,g4,g3,hG,hR,hS,hlen⟩
 have ht:t.length=34:=hk.1.trans (by simp[len_Bs])
 have hh:=hk.all [0] (by decide +kernel)
 simp at hh
 have eb:=bad_run hE hR
 have nS:=hS.n
 cases m with
 | zero=>cases hxl
 | succ m =>
 rw[itemsL]at hxl
 by_cases hg:again=true∧s1.c=0
 · rw[if_pos hg]at hxl
   obtain⟨rfl,hc⟩:=hg
   obtain⟨HA,eA,kA,hA⟩:=name_run hE hR
   have hA2:=hA.same (Same.push _ _ (.row true 0 1 (nameP L s1).cells))
   have nA:=kA.n
   obtain⟨HB,eB,kB,hB⟩:=num_run hE hA2
   have nB:=kB.n
   simp at nB
   have gB:HB.get HA.n = .row true 0 1 (nameP L s1).cells:=kB.at (Heap.get_push_self _ _) (by simp) (by omega)
   have kAB:Same (·=r) H' HB:=(kA.then_push _).trans kB
   have hvr:∀ i,vid v i→H.n≤i:=fun i hi=>(repItm.G_lt hG hi).2
   have hG2:=repItm.G_move kAB (S':=fun i=>H.n≤i) (fun i hi _=>⟨hi,by omega⟩) hG
   obtain⟨v',HC,eC,gC,kC⟩:=repItm.G_app tf_itm hG2 (fun i hi=>by omega) (by have:=hlen hc;have:=hR.place;omega) (a:=⟨(nameP L s1).at_,(nameP L s1).name,(numP L (nameS L s1)).1⟩) (c:=[.int .i64 (nameP L s1).at_,.string (nameP L s1).name,.int .i64 (numP L (nameS L s1)).1]) rfl
   have hC:=hB.keep kC (fun hi=>by have:=hvr _ hi;omega) (fun hi=>by have:=hvr _ hi;omega)
   obtain⟨HD,eD,kD,hD⟩:=take_run hE hC comma
   have nC:=kC.n
   have kk:Same (·=r) H HC:=(hS.trans kAB).then kC (fun i hi => .inr (hvr i hi))
   simp only[Idn.cells,comma]at eA gB eB eD
   simp only[repItm]at eC
   simp[ht,g4,g3,hh,eb,hc,eA,eB,gB,eC,eD]
   refine⟨m,by omega,by omega,_,_,_,v',hxl,by simp[ht,comma],by simp[ht],repItm.G_move kD (fun i hi _=>⟨hi,by omega⟩) gC,hD,kk.trans kD,fun h0 => ?_⟩
   have h1:=takeS_c L (numS L (nameS L s1)) comma
   have h2:=numS_on (L:=L) (s:=nameS L s1) (by rw[← h1.1];exact h0)
   have h3:=nameS_on h2.1
   have h4:=hlen hc
   rw[h2.2,h3.2]at h1 ⊢
   simp only[PS.on]at h1 ⊢
   simp
   omega
 · rw[if_neg hg]at hxl
   cases hxl
   by_cases ha:again=true
   · have hc:¬s'.c=0:=fun e=>hg ⟨ha,e⟩
     subst ha
     simp[ht,g4,g3,hh,eb,hc]
     exact⟨v,rfl,hS,hR,hG⟩
   · have ha':again=false:=by simpa using ha
     subst ha'
     simp[ht,g4,g3,hh]
     exact⟨v,rfl,hS,hR,hG⟩
end
def argsL (L:List Tk)(lv:Int):Nat→List Ex→Bool→PS→Option (List Ex × PS)
 | 0,_,_,_=>none
 | n + 1, acc, again, s =>
  if again=true∧s.c=0 then (xP L n (.row 1 lv) s).bind fun q=>argsL L lv n (acc++[q.1]) (isP L q.2 comma) (takeS L q.2 comma)
  else some (acc,s)
def argsP (L:List Tk)(n:Nat)(lv:Int)(s:PS):Option (List Ex × PS) :=
 if isP L (mustS L s (b1 40)) (b1 41)=true then some ([],(mustS L s (b1 40)).on)
 else (argsL L lv n [] true (mustS L s (b1 40))).map fun q=>(q.1,mustS L q.2 (b1 41))
section
variable {E:Hooks} (hE:Plain E) {r lid:Nat} {L:List Tk}
include hE
end
end Go.Vm.Parse
namespace Go.Vm
theorem Rep.G_slice {α:Type}(ρ:Rep α){H:Heap}{S:Nat→Prop}{v:Value}{l:List α}(h:ρ.G H S v l):∃ b,v = .slice b l.length l.length:=by
 rcases h with⟨rfl,rfl⟩ | ⟨id,tl,cs,rfl,_⟩
 · exact⟨none,rfl⟩
 · exact⟨_,rfl⟩
end Go.Vm
namespace Go.Vm.Parse
open Go Go.Proofs
structure Bra where
 at_:Int
 name:ByteArray
 args:List Ex
 claims:List Itm
def RB (H:Heap)(S:Nat→Prop)(b:Bra)(cs:List Value):Prop:=∃ v w,cs=[.int .i64 b.at_,.string b.name,v,w]∧repEx.G H S v b.args∧repItm.G H S w b.claims
def repBra:Rep Bra where
 k:=4
 R:=RB
 len h:=by obtain⟨v,w,rfl,_⟩:=h;rfl
 move k hs b cs h:=by
  obtain⟨v,w,e,h1,h2⟩:=h
  exact⟨v,w,e,repEx.G_move k hs h1,repItm.G_move k hs h2⟩
inductive Stm where
 | mk (kind at_:Int) (name:ByteArray) (e:List Ex) (body els:List Stm) (br:List Bra) (items:List Itm)
mutual
def RS (H:Heap)(S:Nat→Prop):Stm→List Value→Prop
 | .mk kind at_ name e body els br items, cs => ∃ v1 v2 v3 v4 v5, cs = [.int .i64 kind, .int .i64 at_, .string name, v1, v2, v3, v4, v5] ∧
  repEx.G H S v1 e∧repBra.G H S v4 br∧repItm.G H S v5 items ∧
  ((v2 = .slice none 0 0∧body=[])∨∃ id tl cs',v2 = .slice (some ⟨id,0,none⟩) body.length body.length∧tl≤1∧S id∧H.get id = .row true tl 8 cs'∧RSs H S body cs') ∧
  ((v3 = .slice none 0 0∧els=[])∨∃ id tl cs',v3 = .slice (some ⟨id,0,none⟩) els.length els.length∧tl≤1∧S id∧H.get id = .row true tl 8 cs'∧RSs H S els cs')
def RSs (H:Heap)(S:Nat→Prop):List Stm→List Value→Prop
 | [],cs=>cs=[]
 | a :: l,cs=>∃ c1 c2,cs=c1++c2∧RS H S a c1∧RSs H S l c2
end
mutual
theorem RS.move {X S S':Nat→Prop}{H H':Heap}(k:Same X H H')(hs:∀ i,S i→i<H.n→S' i∧¬X i):∀ (e:Stm)(cs:List Value),RS H S e cs→RS H' S' e cs
 | .mk kind at_ name e body els br items, cs, h => by
  simp only[RS]at h ⊢
  obtain⟨v1,v2,v3,v4,v5,h1,h2,h3,h4,h5,h6⟩:=h
  refine⟨v1,v2,v3,v4,v5,h1,repEx.G_move k hs h2,repBra.G_move k hs h3,repItm.G_move k hs h4,h5.imp id ?_,h6.imp id ?_⟩
  · rintro⟨id,tl,cs',h3,h3',h4,h5,h6⟩
    have:=hs id h4 (Heap.lt_of_get h5 (by simp))
    exact⟨id,tl,cs',h3,h3',this.1,k.at h5 (by simp) this.2,RSs.move k hs body cs' h6⟩
  · rintro⟨id,tl,cs',h3,h3',h4,h5,h6⟩
    have:=hs id h4 (Heap.lt_of_get h5 (by simp))
    exact⟨id,tl,cs',h3,h3',this.1,k.at h5 (by simp) this.2,RSs.move k hs els cs' h6⟩
theorem RSs.move {X S S':Nat→Prop}{H H':Heap}(k:Same X H H')(hs:∀ i,S i→i<H.n→S' i∧¬X i):∀ (es:List Stm)(cs:List Value),RSs H S es cs→RSs H' S' es cs
 | [],cs,h=>by simp only[RSs]at h ⊢;exact h
 | e :: es, cs, h => by
  simp only[RSs]at h ⊢
  obtain⟨c1,c2,h1,h2,h3⟩:=h
  exact⟨c1,c2,h1,RS.move k hs e c1 h2,RSs.move k hs es c2 h3⟩
end
theorem RS.len {H:Heap}{S:Nat→Prop}{e:Stm}{cs:List Value}(h:RS H S e cs):cs.length=8:=by
 cases e
 simp only[RS]at h
 obtain⟨v1,v2,v3,v4,v5,rfl,_⟩:=h
 rfl
def repStm:Rep Stm where
 k:=8
 R:=RS
 len:=RS.len
 move k hs:=RS.move k hs
theorem repStm_L {H:Heap}{S:Nat→Prop}:∀ {l:List Stm}{cs:List Value},repStm.L H S l cs↔RSs H S l cs
 | [],cs=>by simp only[Rep.L,RSs]
 | e :: es, cs => by
  simp only[Rep.L,RSs]
  constructor
  · rintro⟨c1,c2,h1,h2,h3⟩;exact⟨c1,c2,h1,h2,repStm_L.1 h3⟩
  · rintro⟨c1,c2,h1,h2,h3⟩;exact⟨c1,c2,h1,h2,repStm_L.2 h3⟩
theorem RSs.weak {H:Heap}{S S':Nat→Prop}(h:∀ i,S i→S' i){l:List Stm}{cs:List Value}(k:RSs H S l cs):RSs H S' l cs :=
 RSs.move (Same.refl (fun _=>False) H) (fun i hi _=>⟨h i hi,fun h=>h⟩) _ _ k
theorem RS.put {H:Heap}{S:Nat→Prop}{kind at_:Int}{name:ByteArray}{e:List Ex}{body els:List Stm}{br:List Bra}{items:List Itm}{v1 v2 v3 v4 v5:Value}
  (h1:repEx.G H S v1 e) (h2:repStm.G H S v2 body) (h3:repStm.G H S v3 els) (h4:repBra.G H S v4 br) (h5:repItm.G H S v5 items) :
  RS H S (.mk kind at_ name e body els br items) [.int .i64 kind,.int .i64 at_,.string name,v1,v2,v3,v4,v5]:=by
 simp only[RS]
 refine⟨v1,v2,v3,v4,v5,rfl,h1,h4,h5,h2.imp (fun h=>h) ?_,h3.imp (fun h=>h) ?_⟩
 · rintro⟨id,tl,cs,a,b,c,d,e⟩
   exact⟨id,tl,cs,a,b,c,d,(repStm_L.1 e).weak fun i hi=>hi.1⟩
 · rintro⟨id,tl,cs,a,b,c,d,e⟩
   exact⟨id,tl,cs,a,b,c,d,(repStm_L.1 e).weak fun i hi=>hi.1⟩
def tIf:ByteArray:=⟨#[105,102]⟩
def tSkip:ByteArray:=⟨#[115,107,105,112]⟩
def tThen:ByteArray:=⟨#[116,104,101,110]⟩
def tElse:ByteArray:=⟨#[101,108,115,101]⟩
def tFi:ByteArray:=⟨#[102,105]⟩
def tWhile:ByteArray:=⟨#[119,104,105,108,101]⟩
def tDo:ByteArray:=⟨#[100,111]⟩
def tOd:ByteArray:=⟨#[111,100]⟩
def tCobegin:ByteArray:=⟨#[99,111,98,101,103,105,110]⟩
def tCoend:ByteArray:=⟨#[99,111,101,110,100]⟩
def tSlash:ByteArray:=⟨#[47,47]⟩
def tRegion:ByteArray:=⟨#[114,101,103,105,111,110]⟩
def tWhen:ByteArray:=⟨#[119,104,101,110]⟩
def tRequest:ByteArray:=⟨#[114,101,113,117,101,115,116]⟩
def tRelease:ByteArray:=⟨#[114,101,108,101,97,115,101]⟩
def tRead:ByteArray:=⟨#[114,101,97,100]⟩
def tWrite:ByteArray:=⟨#[119,114,105,116,101]⟩
def tSet:ByteArray:=⟨#[58,61]⟩
def tSemi:ByteArray:=⟨#[59]⟩
def namedP (L:List Tk)(n:Nat)(lv:Int)(s:PS):Option (Stm × PS) :=
 if isP L (nameS L s) (b1 40)=true then
  (argsP L n lv (nameS L s)).map fun q=>(.mk 6 (nameP L s).at_ (nameP L s).name q.1 [] [] [] [],q.2)
 else if isP L (nameS L s) (b1 91)=true then
  (xP L n (.index lv) (nameS L s)).bind fun i=>(xP L n (.row 1 lv) (mustS L i.2 tSet)).map fun q=>(.mk 3 (nameP L s).at_ (nameP L s).name [i.1,q.1] [] [] [] [],q.2)
 else (xP L n (.row 1 lv) (mustS L (nameS L s) tSet)).map fun q=>(.mk 2 (nameP L s).at_ (nameP L s).name [q.1] [] [] [] [],q.2)
abbrev BrP:=List Tk→Nat→Int→PS→Option (Bra × PS)
def branL (B:BrP)(L:List Tk)(lv:Int):Nat→List Bra→Bool→PS→Option (List Bra × PS)
 | 0,_,_,_=>none
 | n + 1, acc, again, s =>
  if again=true∧s.c=0 then (B L n lv s).bind fun q=>branL B L lv n (acc++[q.1]) (isP L q.2 tSlash) (takeS L q.2 tSlash)
  else some (acc,s)
mutual
def stmtP (B:BrP)(L:List Tk):Nat→Int→PS→Option (Stm × PS)
 | 0,_,_=>none
 | n + 1, lv, s =>
  if (tok L s.p).kind=1 then namedP L n lv s
  else if isP L s tSkip=true then some (.mk 1 (tok L s.p).at_ ByteArray.empty [] [] [] [] [],s.on)
  else if isP L s tIf=true then
   (xP L n (.row 1 lv) s.on).bind fun x=>(blockP B L n tThen lv x.2).bind fun b =>
    if isP L b.2 tElse=true then (blockP B L n tElse lv b.2).map fun c=>(.mk 4 (tok L s.p).at_ ByteArray.empty [x.1] b.1 c.1 [] [],mustS L c.2 tFi)
    else some (.mk 4 (tok L s.p).at_ ByteArray.empty [x.1] b.1 [] [] [],mustS L b.2 tFi)
  else if isP L s tWhile=true then
   (xP L n (.row 1 lv) s.on).bind fun x=>(blockP B L n tDo lv x.2).map fun b=>(.mk 5 (tok L s.p).at_ ByteArray.empty [x.1] b.1 [] [] [],mustS L b.2 tOd)
  else if isP L s tCobegin=true then
   (branL B L lv n [] true s.on).map fun q=>(.mk 7 (tok L s.p).at_ ByteArray.empty [] [] [] q.1 [],mustS L q.2 tCoend)
  else if isP L s (b1 80)=true∨isP L s (b1 86)=true then
   some (.mk (if isP L s (b1 86)=true then 9 else 8) (tok L s.p).at_ (nameP L (mustS L s.on (b1 40))).name [] [] [] [] [],mustS L (nameS L (mustS L s.on (b1 40))) (b1 41))
  else if isP L s tRegion=true then
   if isP L (nameS L s.on) tWhen=true then
    (xP L n (.row 1 lv) (nameS L s.on).on).bind fun x=>(blockP B L n tDo lv x.2).map fun b=>(.mk 10 (tok L s.p).at_ (nameP L s.on).name [x.1] b.1 [] [] [],mustS L b.2 tOd)
   else (blockP B L n tDo lv (nameS L s.on)).map fun b=>(.mk 10 (tok L s.p).at_ (nameP L s.on).name [] b.1 [] [] [],mustS L b.2 tOd)
  else if isP L s tRequest=true then
   (itemsL L n [] true s.on).map fun q=>(.mk 11 (tok L s.p).at_ ByteArray.empty [] [] [] [] q.1,q.2)
  else if isP L s tRelease=true then
   (itemsL L n [] true s.on).map fun q=>(.mk 12 (tok L s.p).at_ ByteArray.empty [] [] [] [] q.1,q.2)
  else if isP L s tRead=true then
   if isP L (nameS L s.on) (b1 91)=true then
    (xP L n (.index lv) (nameS L s.on)).map fun x=>(.mk 14 (tok L s.p).at_ (nameP L s.on).name [x.1] [] [] [] [],x.2)
   else some (.mk 13 (tok L s.p).at_ (nameP L s.on).name [] [] [] [] [],nameS L s.on)
  else if isP L s tWrite=true then
   (xP L n (.row 1 lv) s.on).map fun x=>(.mk 15 (tok L s.p).at_ ByteArray.empty [x.1] [] [] [] [],x.2)
  else some (.mk 0 (tok L s.p).at_ ByteArray.empty [] [] [] [] [],faultS L s 14)
def stmtsL (B:BrP)(L:List Tk):Nat→Int→List Stm→Bool→PS→Option (List Stm × PS)
 | 0,_,_,_,_=>none
 | n + 1, lv, acc, again, s =>
  if again=true∧s.c=0 then (stmtP B L n lv s).bind fun q=>stmtsL B L n lv (acc++[q.1]) (isP L q.2 tSemi) (takeS L q.2 tSemi)
  else some (acc,s)
def blockP (B:BrP)(L:List Tk):Nat→ByteArray→Int→PS→Option (List Stm × PS)
 | 0,_,_,_=>none
 | n + 1, o, lv, s =>
  if isP L s o=false then some ([],faultS L s 14)
  else if (opensS L s (lv+1)).c≠0 then some ([],opensS L s (lv+1))
  else stmtsL B L n (lv+1) [] true (opensS L s (lv+1)).on
end
end Go.Vm.Parse
namespace Go.Vm.Parse
open Go Go.Proofs
attribute [local simp] repCells_succ writeAt rd_Fr toList_beq gpe gpn spe gse gsn ne_r0 ne_l0 le_s0 ne_r1 ne_l1 lt_s1 le_s1 ne_r2 ne_l2 lt_s2 le_s2 ne_r3 ne_l3 lt_s3 le_s3 ne_r4 ne_l4 lt_s4 le_s4 ne_r5 ne_l5 lt_s5 le_s5 ne_r6 ne_l6 lt_s6 le_s6 ne_r7 ne_l7 lt_s7 le_s7
def RetR {α:Type}(ρ:Rep α)(H:Heap)(r lid:Nat)(L:List Tk)(a:α)(s:PS)(o:Out)(H':Heap):Prop :=
 ∃ cs,o = .val (.agg ⟨cs⟩)∧Same (·=r) H H'∧RD H' r lid L s∧ρ.R H' (fun i=>H.n≤i) a cs
structure At (H:Heap)(r lid:Nat)(L:List Tk)(s:PS)(K:Heap):Prop where
 same:Same (·=r) H K
 rd:RD K r lid L s
theorem At.n {H K:Heap}{r lid:Nat}{L:List Tk}{s:PS}(h:At H r lid L s K):H.n≤K.n:=h.same.n
theorem At.push {H K:Heap}{r lid:Nat}{L:List Tk}{s:PS}(h:At H r lid L s K)(o:AObj):At H r lid L s (K.push o):=⟨h.same.then_push o,h.rd.same (Same.push _ _ o)⟩
theorem At.go {H K K':Heap}{r lid:Nat}{L:List Tk}{s s':PS}(h:At H r lid L s K)(k:Same (·=r) K K')(h':RD K' r lid L s'):At H r lid L s' K':=⟨h.same.trans k,h'⟩
theorem At.set {H K:Heap}{r lid:Nat}{L:List Tk}{s:PS}(h:At H r lid L s K)(hr:r<H.n)(hl:lid<H.n){i:Nat}(hi:H.n≤i)(hk:i<K.n)(o:AObj):At H r lid L s (K.set i o) :=
 ⟨h.same.then_set hk (.inr hi) o,h.rd.keep (Same.set (X:=fun j=>j=i) K hk rfl o) (by omega) (by omega)⟩
theorem At.on {H K:Heap}{r lid:Nat}{L:List Tk}{s:PS}(h:At H r lid L s K)(hp:s.p<L.length) :
  At H r lid L s.on (K.set r (.row true 0 1 [.slice (some ⟨lid,0,none⟩) L.length L.length,.int .i64 (s.p+1),.int .i64 s.c,.int .i64 s.a])):=by
 obtain⟨k,d⟩:=h.rd.on2 h.same hp
 exact⟨k,d⟩
section
variable {E:Hooks} (hE:Plain E) {r lid:Nat} {L:List Tk}
include hE
end
end Go.Vm.Parse
namespace Go.Vm.Parse
open Go Go.Proofs
structure PS.lt (s s':PS):Prop where
 le:s.le s'
 on:s'.c=0→s.p<s'.p
theorem PS.lt.le_trans {a b c:PS}(h:a.lt b)(k:b.le c):a.lt c:=⟨h.le.le_trans k,fun e=>Nat.lt_of_lt_of_le (h.on (k.code e)) k.place⟩
variable {L:List Tk}
end Go.Vm.Parse
namespace Go.Vm.Parse
open Go Go.Proofs
attribute [local simp] repCells_succ writeAt rd_Fr toList_beq gpe gpn spe gse gsn ne_r0 ne_l0 le_s0 ne_r1 ne_l1 lt_s1 le_s1 ne_r2 ne_l2 lt_s2 le_s2 ne_r3 ne_l3 lt_s3 le_s3 ne_r4 ne_l4 lt_s4 le_s4 ne_r5 ne_l5 lt_s5 le_s5 ne_r6 ne_l6 lt_s6 le_s6 ne_r7 ne_l7 lt_s7 le_s7
section
variable (E:Hooks) (B:BrP) (r lid:Nat) (L:List Tk)
def StmtOK (n:Nat):Prop:=∀ lv s x s',stmtP B L n lv s=some (x,s')→0≤lv→lv≤24→∀ H,RD H r lid L s →
 Gives ((run Tryd.prog E).call 88 [.pointer (some ⟨r,0,none⟩),.int .i64 lv] H) (RetR repStm H r lid L x s')
end
section
variable {E:Hooks} (hE:Plain E) {B:BrP} {r lid:Nat} {L:List Tk}
include hE
end
end Go.Vm.Parse
namespace Go.Vm.Parse
open Go Go.Proofs
structure Loc (Hp:Heap)(r lid:Nat)(L:List Tk)(sid:Nat)(s:PS)(sc:List Value)(K:Heap):Prop where
 at_:At Hp r lid L s K
 get:K.get sid = .row true 0 1 sc
 lt:sid<K.n
 own:Hp.n≤sid
 rl:r<Hp.n∧lid<Hp.n
section
variable {Hp:Heap} {r lid:Nat} {L:List Tk} {sid:Nat} {s s':PS} {sc:List Value} {K K':Heap}
theorem Loc.step (l:Loc Hp r lid L sid s sc K)(k:Same (·=r) K K')(h':RD K' r lid L s'):Loc Hp r lid L sid s' sc K' :=
 ⟨l.at_.go k h',k.at l.get (by simp) (by have:=l.own;have:=l.rl.1;omega),Nat.lt_of_lt_of_le l.lt k.n,l.own,l.rl⟩
theorem Loc.put (l:Loc Hp r lid L sid s sc K)(sc':List Value):Loc Hp r lid L sid s sc' (K.set sid (.row true 0 1 sc')) :=
 ⟨l.at_.set l.rl.1 l.rl.2 l.own l.lt _,Heap.get_set_self _ _ l.lt,l.lt,l.own,l.rl⟩
theorem Loc.push (l:Loc Hp r lid L sid s sc K)(o:AObj):Loc Hp r lid L sid s sc (K.push o) :=
 ⟨l.at_.push o,by rw[Heap.get_push,if_neg (Nat.ne_of_lt l.lt)];exact l.get,Nat.lt_succ_of_lt l.lt,l.own,l.rl⟩
theorem Loc.on (l:Loc Hp r lid L sid s sc K)(hp:s.p<L.length):Loc Hp r lid L sid s.on sc (K.set r (.row true 0 1 [.slice (some ⟨lid,0,none⟩) L.length L.length,.int .i64 (s.p+1),.int .i64 s.c,.int .i64 s.a])) :=
 ⟨l.at_.on hp,by
  have h1:=l.rl.1
  have h2:=l.own
  rw[Heap.get_set _ _ _ (Nat.lt_of_lt_of_le h1 l.at_.n),if_neg (by omega)];exact l.get,l.lt,l.own,l.rl⟩
variable {E:Hooks} (hE:Plain E)
include hE
theorem Loc.is (l:Loc Hp r lid L sid s sc K)(x:ByteArray):∃ K',(run Tryd.prog E).call 83 [.pointer (some ⟨r,0,none⟩),.string x] K=some (.val (.bool (isP L s x)),K')∧Loc Hp r lid L sid s sc K'∧Same (·=r) K K':=by
 obtain⟨K',e,k⟩:=is_run hE l.at_.rd x
 exact⟨K',e,l.step (Same.none k) (l.at_.rd.same k),Same.none k⟩
theorem Loc.items (l:Loc Hp r lid L sid s sc K){n:Nat}{q:List Itm}(hx:itemsL L n [] true s=some (q,s')) :
  ∃ K' b m,(run Tryd.prog E).call 58 [.pointer (some ⟨r,0,none⟩)] K=some (.val (.slice b m m),K')∧Loc Hp r lid L sid s' sc K'∧repItm.G K' (fun i=>sid<i) (.slice b m m) q∧Same (·=r) K K':=by
 obtain⟨o,K',e,v,rfl,k,d,g⟩:=items_run hE hx l.at_.rd
 obtain⟨b,rfl⟩:=repItm.G_slice g
 have hlt:=l.lt
 exact⟨K',b,_,e,l.step k d,repItm.G_move (Same.refl (fun _=>False) _) (fun i hi _=>⟨by omega,fun h=>h⟩) g,k⟩
end
end Go.Vm.Parse
namespace Go.Vm.Make
open Go Go.Proofs Go.Vm.Parse
attribute [local simp] repCells_succ writeAt rd_Fr toList_beq gpe gpn spe gse gsn ne_r0 ne_l0 le_s0 ne_r1 ne_l1 lt_s1 le_s1 ne_r2 ne_l2 lt_s2 le_s2 ne_r3 ne_l3 lt_s3 le_s3
def OutS (H:Heap)(S:Nat→Prop)(v:Value)(out:List UInt8):Prop :=
 (v = .slice none 0 0∧out=[])∨∃ id tl,v = .slice (some ⟨id,0,none⟩) out.length out.length∧tl≤1∧S id∧H.get id = .row true tl 1 (out.map byteC)
theorem OutS.slice {H:Heap}{S:Nat→Prop}{v:Value}{out:List UInt8}(h:OutS H S v out):∃ b,v = .slice b out.length out.length:=by
 rcases h with⟨rfl,rfl⟩ | ⟨id,tl,rfl,_⟩
 · exact⟨none,rfl⟩
 · exact⟨_,rfl⟩
theorem OutS.move {H H':Heap}{X S S':Nat→Prop}{v:Value}{out:List UInt8}(h:OutS H S v out)(k:Same X H H')(hs:∀ i,S i→i<H.n→S' i∧¬X i):OutS H' S' v out:=by
 refine h.imp id ?_
 rintro⟨id,tl,h1,h2,h3,h4⟩
 have:=hs id h3 (Heap.lt_of_get h4 (by simp))
 exact⟨id,tl,h1,h2,this.1,k.at h4 (by simp) this.2⟩
theorem out_app {H:Heap}{S:Nat→Prop}{v:Value}{out:List UInt8}(h:OutS H S v out)(s:ByteArray)(hl:out.length+s.size≤1000000000) :
  ∃ b' H',exAppend Tryd.prog [23,9] v (.string s) H=some (.slice b' (out.length+s.size) (out.length+s.size),H')∧OutS H' (fun i=>S i∨H.n≤i) (.slice b' (out.length+s.size) (out.length+s.size)) (out++s.data.toList)∧Same S H H':=by
 obtain⟨⟨l⟩⟩:=s
 have sz:(⟨⟨l⟩⟩:ByteArray).size=l.length:=rfl
 have e0:(⟨⟨l⟩⟩:ByteArray).data.toList=l:=rfl
 rw[sz]at hl ⊢
 rw[e0]
 have hc:cellsOf H 1 l.length (.string ⟨⟨l⟩⟩)=some (l.map byteC):=by simp[cellsOf,sz,byteC]
 by_cases h0:l=[]
 · subst h0
   simp only[List.length_nil,List.map_nil]at hc
   rcases h with⟨rfl,rfl⟩ | ⟨id,tl,rfl,h2,h3,h4⟩
   · refine⟨none,H,?_,.inl ⟨rfl,rfl⟩,Same.refl _ _⟩
     simp[exAppend,exAppendRow,sz,hc]
   · refine⟨some ⟨id,0,none⟩,H,?_,.inr ⟨id,tl,by simp,h2,.inl h3,by simpa using h4⟩,Same.refl _ _⟩
     simp only[List.length_nil]at hl
     simp[exAppend,exAppendRow,sz,hc,show (out.length+200)≤140737488355328 by omega,show out.length≤140737488355328 by omega,show out.length≤140737488355128 by omega]
 · have hn:¬l.length=0:=fun h=>h0 (List.length_eq_zero_iff.1 h)
   rcases h with⟨rfl,rfl⟩ | ⟨id,tl,rfl,h2,h3,h4⟩
   · simp only[List.length_nil,Nat.zero_add]at hl
     refine⟨some ⟨H.n,0,none⟩,H.push (.row true 1 1 (l.map byteC)),?_,.inr ⟨H.n,1,by simp,Nat.le_refl _,.inr (Nat.le_refl _),by simp[Heap.get_push]⟩,Same.push _ _ _⟩
     simp[exAppend,exAppendRow,sz,hc,h0,hn,show l.length+200≤140737488355328 by omega,show l.length≤140737488355328 by omega,show l.length≤140737488355128 by omega]
   · have hid:=Heap.lt_of_get h4 (by simp)
     have f1:(out.length+l.length+200)≤140737488355328:=by omega
     have f2:out.length+l.length≤140737488355328:=by omega
     have f3:¬out.length+l.length≤out.length:=by omega
     have f4:out.length+l.length≤140737488355128:=by omega
     have f5:(out.map byteC).take out.length=out.map byteC:=List.take_of_length_le (by simp)
     rcases (show tl=0∨tl=1 by omega)with rfl | rfl
     · refine⟨some ⟨H.n,0,none⟩,H.push (.row true 1 1 (out.map byteC++l.map byteC)),?_,.inr ⟨H.n,1,by simp,Nat.le_refl _,.inr (Nat.le_refl _),by simp[Heap.get_push]⟩,Same.push _ _ _⟩
       simp[exAppend,exAppendRow,sz,hc,h4,h0,hn,f1,f2,f3,f4,f5]
     · refine⟨some ⟨H.n,0,none⟩,(H.set id .dead).push (.row true 1 1 (out.map byteC++l.map byteC)),?_,.inr ⟨H.n,1,by simp,Nat.le_refl _,.inr (Nat.le_refl _),by simp[Heap.get_push]⟩,(Same.set H hid h3 _).then_push _⟩
       simp[exAppend,exAppendRow,sz,hc,h4,h0,hn,f1,f2,f3,f4,f5]
structure MK (H0 H:Heap)(mid:Nat)(nv:Value)(N:List Int)(lo hi:Nat)(p:Int)(inn:ByteArray)(a:Nat)(left:Int)(ov:Value)(out:List UInt8):Prop where
 kp:Same (fun i=>H0.n≤i) H0 H
 hm:H0.n≤mid
 obj:H.get mid = .row true 0 1 [nv,.int .i64 a,ov,.int .i64 p,.string inn,.int .i64 left]
 ha:a≤N.length
 go:OutS H (fun i=>H0.n≤i∧i≠mid) ov out
 lo:lo≤out.length
 hi:out.length≤hi
def MKx (H0 H:Heap)(mid:Nat)(nv:Value)(N:List Int)(lo hi:Nat)(p:Int)(inn:ByteArray):Prop:=∃ a left ov out,MK H0 H mid nv N lo hi p inn a left ov out
theorem MK.lt {H0 H:Heap}{mid:Nat}{nv:Value}{N:List Int}{lo hi:Nat}{p:Int}{inn:ByteArray}{a:Nat}{left:Int}{ov:Value}{out:List UInt8}(h:MK H0 H mid nv N lo hi p inn a left ov out):mid<H.n:=Heap.lt_of_get h.obj (by simp)
theorem MKx.more {H0 H:Heap}{mid:Nat}{nv:Value}{N:List Int}{lo hi:Nat}{p:Int}{inn:ByteArray}(h:MKx H0 H mid nv N lo hi p inn){hi':Nat}(hh:hi≤hi'):MKx H0 H mid nv N lo hi' p inn:=by
 obtain⟨a,left,ov,out,h⟩:=h
 exact⟨a,left,ov,out,h.kp,h.hm,h.obj,h.ha,h.go,h.lo,Nat.le_trans h.hi hh⟩
theorem MK.turn {H0 H:Heap}{mid:Nat}{nv:Value}{N:List Int}{lo hi:Nat}{p:Int}{inn:ByteArray}{a:Nat}{left:Int}{ov:Value}{out:List UInt8}(h:MK H0 H mid nv N lo hi p inn a left ov out){a':Nat}(ha:a'≤N.length)(p':Int)(inn':ByteArray)(left':Int) :
  MK H0 (H.set mid (.row true 0 1 [nv,.int .i64 a',ov,.int .i64 p',.string inn',.int .i64 left'])) mid nv N lo hi p' inn' a' left' ov out :=
 ⟨h.kp.then_set h.lt (.inl h.hm) _,h.hm,Heap.get_set_self _ _ h.lt,ha,h.go.move (X:=fun i=>i=mid) (Same.then_set (X:=fun i=>i=mid) (Same.refl _ _) h.lt (.inl rfl) _) fun i hi _=>⟨hi,hi.2⟩,h.lo,h.hi⟩
theorem q_next0:quiet Tryd.prog (drawN Tryd.f45 0)=true:=by decide +kernel
theorem q_next1:quiet Tryd.prog (drawN Tryd.f45 1)=true:=by decide +kernel
theorem SL.at {H:Heap}{nv:Value}{N:List Int}(h:SL H nv N){a:Nat}(ha:a<N.length):∃ r off own tl es cs cap,nv = .slice (some ⟨r,off,none⟩) N.length cap∧H.get r = .row own tl es cs∧∃ h:off+a<cs.length,cs[off+a]'h = .int .i64 N[a]:=by
 obtain⟨base,cap,rfl,⟨rfl,rfl⟩ | ⟨r,off,own,tl,es,cs,rfl,h2,h3,h4⟩⟩:=h
 · cases ha
 · refine⟨r,off,own,tl,es,cs,cap,rfl,h2,by omega,?_⟩
   have e:((cs.drop off).take N.length)[a]? = some (.int .i64 N[a]):=by rw[h4];simp[ha]
   rw[List.getElem?_take_of_lt ha,List.getElem?_drop]at e
   exact (List.getElem?_eq_some_iff.1 e).2
theorem SL.keep {H0 H:Heap}{nv:Value}{N:List Int}(h:SL H0 nv N)(k:Same (fun i=>H0.n≤i) H0 H):SL H nv N :=
 h.same fun i o e d=>k.at e d (by have:=Heap.lt_of_get e d;omega)
theorem slice_str (s:ByteArray)(r:Nat)(h:r+1≤s.size)(H:Heap):exSlice Tryd.prog 9 (.string s) (some (.int .i64 (r:Int))) (some (.int .i64 ((r:Int)+1))) none H=some (.string (s.extract r (r+1)),H):=by
 have h2:(r:Int)+1≤s.size:=by omega
 have h3:((r:Int)+1).toNat=r+1:=by omega
 simp[exSlice,boundOf,h2,h3,show (r:Int)≤(r:Int)+1 by omega]
section
variable {E:Hooks} (hE:Plain E)
include hE
theorem c_mput (args:List Value)(H:Heap):(run Tryd.prog E).call 44 args H=callB Tryd.prog E Tryd.f44 args H:=call_B Tryd.func44 rfl (by decide +kernel) (hE.no _ rfl rfl) args H
theorem c_mnext (args:List Value)(H:Heap):(run Tryd.prog E).call 45 args H=callB Tryd.prog E Tryd.f45 args H:=call_B Tryd.func45 rfl (by decide +kernel) (hE.no _ rfl rfl) args H
theorem put_ok {H0 H:Heap}{mid:Nat}{nv:Value}{N:List Int}{lo hi:Nat}{p:Int}{inn:ByteArray}(h:MKx H0 H mid nv N lo hi p inn)(s:ByteArray)(hs:hi+s.size≤1000000000) :
  ∃ H',(run Tryd.prog E).call 44 [.pointer (some ⟨mid,0,none⟩),.string s] H=some (.val (.tuple #[]),H')∧MKx H0 H' mid nv N (lo+s.size) (hi+s.size) p inn:=by
 suffices key:Gives ((run Tryd.prog E).call 44 [.pointer (some ⟨mid,0,none⟩),.string s] H) fun o H'=>o = .val (.tuple #[])∧MKx H0 H' mid nv N (lo+s.size) (hi+s.size) p inn by
  obtain⟨o,H',e,rfl,k⟩:=key
  exact⟨H',e,k⟩
 obtain⟨a,left,ov,out,h⟩:=h
 obtain⟨b',H2,e2,g2,k2⟩:=out_app h.go s (by have:=h.hi;omega)
 obtain⟨b,rfl⟩:=h.go.slice
 have o1:=h.obj
 have o2:=k2.at o1 (by simp) (fun z=>z.2 rfl)
 have l2:=Heap.lt_of_get o2 (by simp)
 rw[c_mput hE,callB,bodyOf]
 simp[Tryd.f44,o1,e2,o2]
 have sz:s.data.toList.length=s.size:=by obtain⟨⟨l⟩⟩:=s;rfl
 refine⟨a,left,_,out++s.data.toList,(h.kp.then k2 fun i hi => .inl hi.1).then_set l2 (.inl h.hm) _,h.hm,Heap.get_set_self _ _ l2,h.ha,g2.move (X:=fun i=>i=mid) (Same.then_set (X:=fun i=>i=mid) (Same.refl _ _) l2 (.inl rfl) _) ?_,?_,?_⟩
 · rintro i (hi | hi) _
   · exact⟨hi,hi.2⟩
   · have:=h.kp.n
     have:=h.lt
     exact⟨⟨by omega,by omega⟩,by omega⟩
 · have:=h.lo
   rw[List.length_append,sz];omega
 · have:=h.hi
   rw[List.length_append,sz];omega
theorem next_ok {H0 H:Heap}{mid:Nat}{nv:Value}{N:List Int}{lo hi:Nat}{p:Int}{inn:ByteArray}(hN:SL H0 nv N)(hl:N.length≤100000)(h:MKx H0 H mid nv N lo hi p inn)(n:Int)(h1:1≤n)(h2:n≤100000) :
  ∃ r H',(run Tryd.prog E).call 45 [.pointer (some ⟨mid,0,none⟩),.int .i64 n] H=some (.val (.int .i64 r),H')∧0≤r∧r<n∧MKx H0 H' mid nv N lo hi p inn:=by
 suffices key:Gives ((run Tryd.prog E).call 45 [.pointer (some ⟨mid,0,none⟩),.int .i64 n] H) fun o H'=>∃ r,o = .val (.int .i64 r)∧0≤r∧r<n∧MKx H0 H' mid nv N lo hi p inn by
  obtain⟨o,H',e,r,rfl,k⟩:=key
  exact⟨r,H',e,k⟩
 obtain⟨a,left,ov,out,h⟩:=h
 have o1:=h.obj
 obtain⟨b,rfl⟩:=h.go.slice
 rw[c_mnext hE,callB,bodyOf]
 have q0:=q_next0
 have q1:=q_next1
 obtain⟨b0,n0,c0,rfl⟩:=hN.slice
 have hlen:=hN.len
 simp only[lenA,Option.some.injEq]at hlen
 subst hlen
 simp[Tryd.f45,o1]
 refine region_quiet (by exact q0) ?_
 rcases Nat.lt_or_ge a N.length with hlt | hge
 · obtain⟨r,off,own,tl,es,cs,cap,e,hg,hc,hv⟩:=SL.at (SL.keep hN h.kp) hlt
   cases e
   simp[o1,show ¬(N.length:Int)≤a by omega,show ¬n<1 by omega]
   refine region_quiet (by exact q1) ?_
   have hr:=fun ty u v=>bin_rem (P:=Tryd.prog) ty u v .i64 N[a] n (by omega)
   have hb : -n<N[a].tmod n∧N[a].tmod n<n:=by
    have h1:=Int.tmod_lt_of_pos N[a] (show (0:Int)<n by omega)
    have h2:=Int.neg_tmod N[a] n
    have h3:=Int.tmod_lt_of_pos (-N[a]) (show (0:Int)<n by omega)
    omega
   generalize N[a].tmod n=y at hb hr
   have w1:IntKind.i64.wrap ((a:Int)+1)=((a+1:Nat):Int):=by rw[wrap64 _ (by omega) (by omega)];omega
   have w2:IntKind.i64.wrap (y+n)=y+n:=wrap64 _ (by omega) (by omega)
   have ea:((a+1:Nat):Int)=(a:Int)+1:=by omega
   have ht:=h.turn (a':=a+1) (by omega) p inn left
   by_cases hy:y<0
   · simp[o1,hlt,hg,hc,hv,hr,w1,w2,hy]
     rw[← ea]
     exact⟨by omega,by omega,_,_,_,_,ht⟩
   · simp[o1,hlt,hg,hc,hv,hr,w1,w2,hy]
     rw[← ea]
     exact⟨by omega,by omega,_,_,_,_,ht⟩
 · simp[o1,show (N.length:Int)≤a by omega]
   exact⟨by omega,_,_,_,_,h⟩
theorem c_itoa (args:List Value)(H:Heap):(run Tryd.prog E).call 41 args H=callB Tryd.prog E Tryd.f41 args H:=call_B Tryd.func41 rfl (by decide +kernel) (hE.no _ rfl rfl) args H
theorem c_itoa2 (args:List Value)(H:Heap):(run Tryd.prog E).call 76 args H=callB Tryd.prog E Tryd.f76 args H:=call_B Tryd.func76 rfl (by decide +kernel) (hE.no _ rfl rfl) args H
theorem c_fmtint (args:List Value)(H:Heap):(run Tryd.prog E).call 90 args H=callB Tryd.prog E Tryd.f90 args H:=call_B Tryd.func90 rfl (by decide +kernel) (hE.no _ rfl rfl) args H
theorem c_small (args:List Value)(H:Heap):(run Tryd.prog E).call 102 args H=callB Tryd.prog E Tryd.f102 args H:=call_B Tryd.func102 rfl (by decide +kernel) (hE.no _ rfl rfl) args H
theorem small_ok (r:Nat)(hr:r<10)(H:Heap):∃ s:ByteArray,s.size≤1∧(run Tryd.prog E).call 102 [.int .i64 r] H=some (.val (.string s),H):=by
 suffices key:Gives ((run Tryd.prog E).call 102 [.int .i64 r] H) fun o H'=>∃ s:ByteArray,s.size≤1∧o = .val (.string s)∧H'=H by
  obtain⟨o,H',e,s,hs,rfl,rfl⟩:=key
  exact⟨s,hs,e⟩
 have w1:IntKind.i64.wrap ((r:Int)+1)=((r+1:Nat):Int):=by rw[wrap64 _ (by omega) (by omega)];omega
 have hr':(r:Int)<10:=by omega
 rw[c_small hE,callB,bodyOf]
 have sl:=slice_str ⟨#[48,49,50,51,52,53,54,55,56,57,97,98,99,100,101,102,103,104,105,106,107,108,109,110,111,112,113,114,115,116,117,118,119,120,121,122]⟩ r (show r+1≤36 by omega) H
 simp[Tryd.f102,hr',w1,sl]
 omega
theorem itoa_ok (r:Int)(h0:0≤r)(hr:r<10)(H:Heap):∃ s:ByteArray,s.size≤1∧(run Tryd.prog E).call 41 [.int .i64 r] H=some (.val (.string s),H):=by
 obtain⟨n,rfl⟩:∃ n:Nat,r=n:=⟨r.toNat,by omega⟩
 obtain⟨s,hs,e⟩:=small_ok hE n (by omega) H
 refine⟨s,hs,?_⟩
 have e1:(run Tryd.prog E).call 90 [.int .i64 (n:Int),.int .i64 10] H=some (.val (.string s),H):=by
  suffices key:Gives ((run Tryd.prog E).call 90 [.int .i64 (n:Int),.int .i64 10] H) fun o H'=>o = .val (.string s)∧H'=H by
   obtain⟨o,H',e,rfl,rfl⟩:=key
   exact e
  rw[c_fmtint hE,callB,bodyOf]
  simp[Tryd.f90,show (n:Int)<100 by omega,e]
 have e2:(run Tryd.prog E).call 76 [.int .i64 (n:Int)] H=some (.val (.string s),H):=by
  suffices key:Gives ((run Tryd.prog E).call 76 [.int .i64 (n:Int)] H) fun o H'=>o = .val (.string s)∧H'=H by
   obtain⟨o,H',e,rfl,rfl⟩:=key
   exact e
  rw[c_itoa2 hE,callB,bodyOf]
  simp[Tryd.f76,e1]
 suffices key:Gives ((run Tryd.prog E).call 41 [.int .i64 (n:Int)] H) fun o H'=>o = .val (.string s)∧H'=H by
  obtain⟨o,H',e,rfl,rfl⟩:=key
  exact e
 rw[c_itoa hE,callB,bodyOf]
 simp[Tryd.f41,e2]
end
end Go.Vm.Make
namespace Go.Vm.Make
open Go Go.Proofs Go.Vm.Parse
attribute [local simp] repCells_succ writeAt rd_Fr toList_beq gpe gpn spe gse gsn ne_r0 ne_l0 le_s0 op_index
theorem MKx.low {H0 H:Heap}{mid:Nat}{nv:Value}{N:List Int}{lo lo' hi:Nat}{p:Int}{inn:ByteArray}(h:MKx H0 H mid nv N lo hi p inn)(hh:lo'≤lo):MKx H0 H mid nv N lo' hi p inn:=by
 obtain⟨a,left,ov,out,h⟩:=h
 exact⟨a,left,ov,out,h.kp,h.hm,h.obj,h.ha,h.go,Nat.le_trans hh h.lo,h.hi⟩
theorem idxA_arr {P:Program}{ty:TypeId}{len:Nat}{e:TypeId}(hty:P.underlying ty=some (.array len e))(hs:sizeT P e=some 1)(ha:aggT P e=some false){cs:List Value}{kd:IntKind}{j:Int}(h0:0≤j)(hj:j<(len:Int)){v:Value}(hv:cs[j.toNat]? = some v)(H:Heap) :
  idxA P ty (some (.agg ⟨cs⟩)) (some (.int kd j)) H=some (.val v,H):=by
 simp[idxA,hty,hs,partA,ha,h0,hj,hv]
theorem gives_idx6 {a0 a1 a2 a3 a4 a5:ByteArray}{j:Int}{H:Heap}{Q:Out→Heap→Prop}(h0:a0.size≤40)(h1:a1.size≤40)(h2:a2.size≤40)(h3:a3.size≤40)(h4:a4.size≤40)(h5:a5.size≤40)(h:0≤j)(hj:j<6)(k:∀ s:ByteArray,s.size≤40→Q (.val (.string s)) H) :
  Gives (idxA Tryd.prog 158 (some (.agg ⟨[.string a0,.string a1,.string a2,.string a3,.string a4,.string a5]⟩)) (some (.int .i64 j)) H) Q:=by
 rcases (show j=0∨j=1∨j=2∨j=3∨j=4∨j=5 by omega)with rfl | rfl | rfl | rfl | rfl | rfl
 · exact⟨_,_,idxA_arr Tryd.underlying158 (by simp) (by simp) (by omega) (by omega) rfl H,k _ h0⟩
 · exact⟨_,_,idxA_arr Tryd.underlying158 (by simp) (by simp) (by omega) (by omega) rfl H,k _ h1⟩
 · exact⟨_,_,idxA_arr Tryd.underlying158 (by simp) (by simp) (by omega) (by omega) rfl H,k _ h2⟩
 · exact⟨_,_,idxA_arr Tryd.underlying158 (by simp) (by simp) (by omega) (by omega) rfl H,k _ h3⟩
 · exact⟨_,_,idxA_arr Tryd.underlying158 (by simp) (by simp) (by omega) (by omega) rfl H,k _ h4⟩
 · exact⟨_,_,idxA_arr Tryd.underlying158 (by simp) (by simp) (by omega) (by omega) rfl H,k _ h5⟩
theorem gives_idx2 {a0 a1:ByteArray}{j:Int}{H:Heap}{Q:Out→Heap→Prop}(h0:a0.size≤40)(h1:a1.size≤40)(h:0≤j)(hj:j<2)(k:∀ s:ByteArray,s.size≤40→Q (.val (.string s)) H) :
  Gives (idxA Tryd.prog 157 (some (.agg ⟨[.string a0,.string a1]⟩)) (some (.int .i64 j)) H) Q:=by
 rcases (show j=0∨j=1 by omega)with rfl | rfl
 · exact⟨_,_,idxA_arr Tryd.underlying157 (by simp) (by simp) (by omega) (by omega) rfl H,k _ h0⟩
 · exact⟨_,_,idxA_arr Tryd.underlying157 (by simp) (by simp) (by omega) (by omega) rfl H,k _ h1⟩
theorem gives_idx3 {a0 a1 a2:ByteArray}{j:Int}{H:Heap}{Q:Out→Heap→Prop}(h0:a0.size≤40)(h1:a1.size≤40)(h2:a2.size≤40)(h:0≤j)(hj:j<3)(k:∀ s:ByteArray,s.size≤40→Q (.val (.string s)) H) :
  Gives (idxA Tryd.prog 183 (some (.agg ⟨[.string a0,.string a1,.string a2]⟩)) (some (.int .i64 j)) H) Q:=by
 rcases (show j=0∨j=1∨j=2 by omega)with rfl | rfl | rfl
 · exact⟨_,_,idxA_arr Tryd.underlying183 (by simp) (by simp) (by omega) (by omega) rfl H,k _ h0⟩
 · exact⟨_,_,idxA_arr Tryd.underlying183 (by simp) (by simp) (by omega) (by omega) rfl H,k _ h1⟩
 · exact⟨_,_,idxA_arr Tryd.underlying183 (by simp) (by simp) (by omega) (by omega) rfl H,k _ h2⟩
section
variable {E:Hooks} (hE:Plain E) {H0:Heap} {mid:Nat} {nv:Value} {N:List Int} (hN:SL H0 nv N) (hl:N.length≤100000)
include hE
theorem gives_put {H:Heap}{lo hi:Nat}{p:Int}{inn:ByteArray}(h:MKx H0 H mid nv N lo hi p inn){s:ByteArray}{Q:Out→Heap→Prop}(hs:s.size≤40)(hb:hi≤900000000)
  (k:∀ H',MKx H0 H' mid nv N lo (hi+40) p inn→Q (.val (.tuple #[])) H'):Gives ((run Tryd.prog E).call 44 [.pointer (some ⟨mid,0,none⟩),.string s] H) Q:=by
 obtain⟨H',e,h'⟩:=put_ok hE h s (by omega)
 exact⟨_,_,e,k H' ((h'.low (Nat.le_add_right _ _)).more (by omega))⟩
include hN hl
theorem gives_next {H:Heap}{lo hi:Nat}{p:Int}{inn:ByteArray}(h:MKx H0 H mid nv N lo hi p inn){n:Int}{Q:Out→Heap→Prop}(h1:1≤n)(h2:n≤1000)
  (k:∀ r H',0≤r→r<n→MKx H0 H' mid nv N lo hi p inn→Q (.val (.int .i64 r)) H'):Gives ((run Tryd.prog E).call 45 [.pointer (some ⟨mid,0,none⟩),.int .i64 n] H) Q:=by
 obtain⟨r,H',e,h3,h4,h'⟩:=next_ok hE hN hl h n h1 (by omega)
 exact⟨_,_,e,k r H' h3 h4 h'⟩
theorem c_mnum (args:List Value)(H:Heap):(run Tryd.prog E).call 46 args H=callB Tryd.prog E Tryd.f46 args H:=call_B Tryd.func46 rfl (by decide +kernel) (hE.no _ rfl rfl) args H
theorem c_mexpr (args:List Value)(H:Heap):(run Tryd.prog E).call 81 args H=callB Tryd.prog E Tryd.f81 args H:=call_B Tryd.func81 rfl (by decide +kernel) (hE.no _ rfl rfl) args H
theorem gives_num {H:Heap}{lo hi:Nat}{p:Int}{inn:ByteArray}(h:MKx H0 H mid nv N lo hi p inn){n:Int}{Q:Out→Heap→Prop}(h1:1≤n)(h2:n≤10)(hb:hi≤900000000)
  (k:∀ H',MKx H0 H' mid nv N lo (hi+40) p inn→Q (.val (.tuple #[])) H'):Gives ((run Tryd.prog E).call 46 [.pointer (some ⟨mid,0,none⟩),.int .i64 n] H) Q:=by
 rw[c_mnum hE hN hl,callB,bodyOf]
 simp[Tryd.f46]
 refine gives_next hE hN hl h h1 (by omega) fun r H1 h3 h4 h => ?_
 obtain⟨s,hs,e⟩:=itoa_ok hE r h3 (by omega) H1
 simp[e]
 refine gives_put hE h (by omega) hb fun H2 h => ?_
 simp
 exact k _ h
def bE:Nat→Nat
 | 0=>100
 | d+1=>2 * bE d+300
def InOK (inn:ByteArray):Prop:=inn=ByteArray.empty∨inn=⟨#[118]⟩∨inn=⟨#[119]⟩
theorem expr_ok:∀ d:Nat,d≤3→∀ {H:Heap}{lo hi:Nat}{p:Int}{inn:ByteArray}{Q:Out→Heap→Prop},MKx H0 H mid nv N lo hi p inn→InOK inn→hi+bE d≤900000000 →
  (∀ H',MKx H0 H' mid nv N lo (hi+bE d) p inn→Q (.val (.tuple #[])) H')→Gives ((run Tryd.prog E).call 81 [.pointer (some ⟨mid,0,none⟩),.int .i64 (d:Int)] H) Q:=by
 intro d
 induction d using Nat.strongRecOn with
 | _ d ih =>
 intro hd3 H lo hi p inn Q h hin hb k
 rw[c_mexpr hE hN hl,callB,bodyOf]
 simp[Tryd.f81]
 refine gives_next hE hN hl h (by omega) (by omega) fun r H1 h3 h4 h => ?_
 have hb0:100≤bE d:=by cases d<;>simp only[bE]<;>omega
 have fin:∀ {H'},MKx H0 H' mid nv N lo (hi+40) p inn→Q (.val (.tuple #[])) H':=fun h=>k _ (h.more (by omega))
 have o1:∃ (a:Nat) (left:Int) (ov:Value),H1.get mid = .row true 0 1 [nv,.int .i64 a,ov,.int .i64 p,.string inn,.int .i64 left]:=by
  obtain⟨a,left,ov,out,hm⟩:=h
  exact⟨_,_,_,hm.obj⟩
 obtain⟨a,left,ov,o1⟩:=o1
 have z0:IntKind.i64.wrap 0=0:=wrap64 0 (by omega) (by omega)
 have z1:IntKind.i64.wrap 1=1:=wrap64 1 (by omega) (by omega)
 have z2:IntKind.i64.wrap 2=2:=wrap64 2 (by omega) (by omega)
 have z3:IntKind.i64.wrap 3=3:=wrap64 3 (by omega) (by omega)
 rcases Nat.eq_zero_or_pos d with rfl | hd
 · rcases (show r=0∨r=1∨r=2∨r=3∨r=4∨r=5∨r=6∨r=7∨r=8 by omega)with rfl | rfl | rfl | rfl | rfl | rfl | rfl | rfl | rfl
   · simp;refine gives_num hE hN hl h (by omega) (by omega) (by omega) fun H2 h => ?_;simp;exact fin h
   · by_cases hp:0<p<;>simp[o1,hp]<;>(refine gives_put hE h (by decide) (by omega) fun H2 h => ?_;simp;exact fin h)
   · by_cases hp:0<p<;>simp[o1,hp]<;>(refine gives_put hE h (by decide) (by omega) fun H2 h => ?_;simp;exact fin h)
   · rcases hin with rfl | rfl | rfl<;>simp[o1]<;>(refine gives_put hE h (by decide) (by omega) fun H2 h => ?_;simp;exact fin h)
   · rcases hin with rfl | rfl | rfl<;>simp[o1]<;>(refine gives_put hE h (by decide) (by omega) fun H2 h => ?_;simp;exact fin h)
   · simp[z0,z1,z2,z3];refine gives_num hE hN hl h (by omega) (by omega) (by omega) fun H2 h => ?_;simp;exact fin h
   · by_cases hp:0<p<;>simp[o1,hp,z0,z1,z2,z3]<;>(refine gives_put hE h (by decide) (by omega) fun H2 h => ?_;simp;exact fin h)
   · by_cases hp:0<p<;>simp[o1,hp,z0,z1,z2,z3]<;>(refine gives_put hE h (by decide) (by omega) fun H2 h => ?_;simp;exact fin h)
   · rcases hin with rfl | rfl | rfl<;>simp[o1,z0,z1,z2,z3]<;>(refine gives_put hE h (by decide) (by omega) fun H2 h => ?_;simp;exact fin h)
 · obtain⟨e,rfl⟩:∃ e,d=e+1:=⟨d - 1,by omega⟩
   have d0:¬((e:Int)+1=0):=by omega
   have w0:IntKind.i64.wrap ((e:Int)+1 - 1)=e:=by rw[wrap64 _ (by omega) (by omega)];omega
   have w1:IntKind.i64.wrap (e:Int)=e:=wrap64 _ (by omega) (by omega)
   simp only[bE]at hb k hb0 fin
   rcases (show r=0∨r=1∨r=2∨r=3∨r=4∨r=5∨r=6∨r=7∨r=8 by omega)with rfl | rfl | rfl | rfl | rfl | rfl | rfl | rfl | rfl
   · simp[d0];refine gives_num hE hN hl h (by omega) (by omega) (by omega) fun H2 h => ?_;simp;exact fin h
   · by_cases hp:0<p<;>simp[d0,o1,hp]<;>(refine gives_put hE h (by decide) (by omega) fun H2 h => ?_;simp;exact fin h)
   · by_cases hp:0<p<;>simp[d0,o1,hp]<;>(refine gives_put hE h (by decide) (by omega) fun H2 h => ?_;simp;exact fin h)
   · rcases hin with rfl | rfl | rfl<;>simp[d0,o1]<;>(refine gives_put hE h (by decide) (by omega) fun H2 h => ?_;simp;exact fin h)
   · rcases hin with rfl | rfl | rfl<;>simp[d0,o1]<;>(refine gives_put hE h (by decide) (by omega) fun H2 h => ?_;simp;exact fin h)
   · simp[d0]
     refine gives_put hE h (by decide) (by omega) fun H2 h => ?_
     simp
     have:=ih 0 (by omega) (by omega) (H:=H2) h hin (by simp only[bE];omega) (Q:=fun o H'=>o = .val (.tuple #[])∧MKx H0 H' mid nv N lo (hi+40+bE 0) p inn) (fun H' h=>⟨rfl,h⟩)
     obtain⟨o,H3,e3,rfl,h⟩:=this
     simp at e3
     simp[e3]
     exact k _ (h.more (by simp only[bE];omega))
   all_goals
    simp[d0]
    refine gives_put hE h (by decide) (by omega) fun H2 h => ?_
    simp[w0,w1]
    refine Gives.mono (ih e (by omega) (by omega) (H:=H2) h hin (by omega) (Q:=fun o H'=>o = .val (.tuple #[])∧MKx H0 H' mid nv N lo (hi+40+bE e) p inn) (fun H' h=>⟨rfl,h⟩)) ?_
    rintro _ H3 ⟨rfl,h⟩
    simp
    refine gives_next hE hN hl h (by omega) (by omega) fun j H4 h5 h6 h => ?_
    simp
    refine gives_idx6 (by decide) (by decide) (by decide) (by decide) (by decide) (by decide) h5 h6 fun s hs => ?_
    simp
    refine gives_put hE h hs (by omega) fun H5 h => ?_
    simp[w0,w1]
    refine Gives.mono (ih e (by omega) (by omega) (H:=H5) h hin (by omega) (Q:=fun o H'=>o = .val (.tuple #[])∧MKx H0 H' mid nv N lo (hi+40+bE e+40+bE e) p inn) (fun H' h=>⟨rfl,h⟩)) ?_
    rintro _ H6 ⟨rfl,h⟩
    simp
    refine gives_put hE h (by decide) (by omega) fun H7 h => ?_
    simp
    exact k _ (h.more (by omega))
end
theorem pl_callee:planOf Tryd.prog (drawN Tryd.f80 0)=some [some (0,1),some (0,1),some (0,1),some (0,1),some (0,1),none,none,none,none,none,none,none,none,none]:=by decide +kernel
theorem MKx.row {H0 H:Heap}{mid:Nat}{nv:Value}{N:List Int}{lo hi:Nat}{p:Int}{inn:ByteArray}(h:MKx H0 H mid nv N lo hi p inn):∃ (a:Nat)(left:Int)(b:Option Addr)(n:Nat),H.get mid = .row true 0 1 [nv,.int .i64 a,.slice b n n,.int .i64 p,.string inn,.int .i64 left]:=by
 obtain⟨a,left,ov,out,hm⟩:=h
 obtain⟨b,rfl⟩:=hm.go.slice
 exact⟨_,_,_,_,hm.obj⟩
def bC:Nat→Nat
 | 0=>2 * bE 1+400
 | d+1=>2 * bC d+2 * bE 1+400
section
variable {E:Hooks} (hE:Plain E) {H0:Heap} {mid:Nat} {nv:Value} {N:List Int} (hN:SL H0 nv N) (hl:N.length≤100000)
include hE hN hl
theorem gives_expr (d:Nat)(hd:d≤3){H:Heap}{lo hi:Nat}{p:Int}{inn:ByteArray}(h:MKx H0 H mid nv N lo hi p inn)(hin:InOK inn){z:Int}{Q:Out→Heap→Prop}(hz:z=d)(hb:hi+bE d≤900000000)
  (k:∀ H',MKx H0 H' mid nv N lo (hi+bE d) p inn→Q (.val (.tuple #[])) H'):Gives ((run Tryd.prog E).call 81 [.pointer (some ⟨mid,0,none⟩),.int .i64 z] H) Q:=by
 subst hz
 exact expr_ok hE hN hl d hd h hin hb k
theorem c_mcond (args:List Value)(H:Heap):(run Tryd.prog E).call 94 args H=callB Tryd.prog E Tryd.f94 args H:=call_B Tryd.func94 rfl (by decide +kernel) (hE.no _ rfl rfl) args H
theorem c_mwait (args:List Value)(H:Heap):(run Tryd.prog E).call 109 args H=callB Tryd.prog E Tryd.f109 args H:=call_B Tryd.func109 rfl (by decide +kernel) (hE.no _ rfl rfl) args H
theorem c_mitems (args:List Value)(H:Heap):(run Tryd.prog E).call 95 args H=callB Tryd.prog E Tryd.f95 args H:=call_B Tryd.func95 rfl (by decide +kernel) (hE.no _ rfl rfl) args H
theorem c_mcallee (args:List Value)(H:Heap):(run Tryd.prog E).call 80 args H=callB Tryd.prog E Tryd.f80 args H:=call_B Tryd.func80 rfl (by decide +kernel) (hE.no _ rfl rfl) args H
theorem cond_ok:∀ d:Nat,d≤3→∀ {H:Heap}{lo hi:Nat}{p:Int}{inn:ByteArray}{Q:Out→Heap→Prop},MKx H0 H mid nv N lo hi p inn→InOK inn→hi+bC d≤900000000 →
  (∀ H',MKx H0 H' mid nv N lo (hi+bC d) p inn→Q (.val (.tuple #[])) H')→Gives ((run Tryd.prog E).call 94 [.pointer (some ⟨mid,0,none⟩),.int .i64 (d:Int)] H) Q:=by
 intro d
 induction d using Nat.strongRecOn with
 | _ d ih =>
 intro hd3 H lo hi p inn Q h hin hb k
 rw[c_mcond hE hN hl,callB,bodyOf]
 simp[Tryd.f94]
 refine gives_next hE hN hl h (by omega) (by omega) fun r H1 h3 h4 h => ?_
 have hb0:2 * bE 1+400≤bC d:=by cases d<;>simp only[bC]<;>omega
 rcases Nat.eq_zero_or_pos d with rfl | hd
 · rcases (show r=0∨r=1∨r=2∨r=3∨r=4∨r=5∨r=6∨r=7 by omega)with rfl | rfl | rfl | rfl | rfl | rfl | rfl | rfl
   · simp
     refine gives_expr hE hN hl 1 (by omega) h hin rfl (by omega) fun H2 h => ?_
     simp
     refine gives_next hE hN hl h (by omega) (by omega) fun j H4 h5 h6 h => ?_
     simp
     refine gives_idx6 (by decide) (by decide) (by decide) (by decide) (by decide) (by decide) h5 h6 fun s hs => ?_
     simp
     refine gives_put hE h hs (by omega) fun H5 h => ?_
     simp
     refine gives_expr hE hN hl 1 (by omega) h hin rfl (by omega) fun H6 h => ?_
     simp
     exact k _ (h.more (by omega))
   · simp
     refine gives_expr hE hN hl 1 (by omega) h hin rfl (by omega) fun H2 h => ?_
     simp
     refine gives_next hE hN hl h (by omega) (by omega) fun j H4 h5 h6 h => ?_
     simp
     refine gives_idx6 (by decide) (by decide) (by decide) (by decide) (by decide) (by decide) h5 h6 fun s hs => ?_
     simp
     refine gives_put hE h hs (by omega) fun H5 h => ?_
     simp
     refine gives_expr hE hN hl 1 (by omega) h hin rfl (by omega) fun H6 h => ?_
     simp
     exact k _ (h.more (by omega))
   · simp
     refine gives_expr hE hN hl 1 (by omega) h hin rfl (by omega) fun H2 h => ?_
     simp
     refine gives_next hE hN hl h (by omega) (by omega) fun j H4 h5 h6 h => ?_
     simp
     refine gives_idx6 (by decide) (by decide) (by decide) (by decide) (by decide) (by decide) h5 h6 fun s hs => ?_
     simp
     refine gives_put hE h hs (by omega) fun H5 h => ?_
     simp
     refine gives_expr hE hN hl 1 (by omega) h hin rfl (by omega) fun H6 h => ?_
     simp
     exact k _ (h.more (by omega))
   · simp
     refine gives_expr hE hN hl 1 (by omega) h hin rfl (by omega) fun H2 h => ?_
     simp
     refine gives_next hE hN hl h (by omega) (by omega) fun j H4 h5 h6 h => ?_
     simp
     refine gives_idx6 (by decide) (by decide) (by decide) (by decide) (by decide) (by decide) h5 h6 fun s hs => ?_
     simp
     refine gives_put hE h hs (by omega) fun H5 h => ?_
     simp
     refine gives_expr hE hN hl 1 (by omega) h hin rfl (by omega) fun H6 h => ?_
     simp
     exact k _ (h.more (by omega))
   · simp
     refine gives_next hE hN hl h (by omega) (by omega) fun j H4 h5 h6 h => ?_
     simp
     refine gives_idx2 (by decide) (by decide) h5 h6 fun s hs => ?_
     simp
     refine gives_put hE h hs (by omega) fun H5 h => ?_
     simp
     exact k _ (h.more (by omega))
   · simp
     refine gives_expr hE hN hl 1 (by omega) h hin rfl (by omega) fun H2 h => ?_
     simp
     refine gives_next hE hN hl h (by omega) (by omega) fun j H4 h5 h6 h => ?_
     simp
     refine gives_idx6 (by decide) (by decide) (by decide) (by decide) (by decide) (by decide) h5 h6 fun s hs => ?_
     simp
     refine gives_put hE h hs (by omega) fun H5 h => ?_
     simp
     refine gives_expr hE hN hl 1 (by omega) h hin rfl (by omega) fun H6 h => ?_
     simp
     exact k _ (h.more (by omega))
   · simp
     refine gives_expr hE hN hl 1 (by omega) h hin rfl (by omega) fun H2 h => ?_
     simp
     refine gives_next hE hN hl h (by omega) (by omega) fun j H4 h5 h6 h => ?_
     simp
     refine gives_idx6 (by decide) (by decide) (by decide) (by decide) (by decide) (by decide) h5 h6 fun s hs => ?_
     simp
     refine gives_put hE h hs (by omega) fun H5 h => ?_
     simp
     refine gives_expr hE hN hl 1 (by omega) h hin rfl (by omega) fun H6 h => ?_
     simp
     exact k _ (h.more (by omega))
   · simp
     refine gives_expr hE hN hl 1 (by omega) h hin rfl (by omega) fun H2 h => ?_
     simp
     refine gives_next hE hN hl h (by omega) (by omega) fun j H4 h5 h6 h => ?_
     simp
     refine gives_idx6 (by decide) (by decide) (by decide) (by decide) (by decide) (by decide) h5 h6 fun s hs => ?_
     simp
     refine gives_put hE h hs (by omega) fun H5 h => ?_
     simp
     refine gives_expr hE hN hl 1 (by omega) h hin rfl (by omega) fun H6 h => ?_
     simp
     exact k _ (h.more (by omega))
 · obtain⟨e,rfl⟩:∃ e,d=e+1:=⟨d - 1,by omega⟩
   have d0:¬((e:Int)+1=0):=by omega
   have w1:IntKind.i64.wrap (e:Int)=e:=wrap64 _ (by omega) (by omega)
   have z0:IntKind.i64.wrap 0=0:=wrap64 0 (by omega) (by omega)
   have z1:IntKind.i64.wrap 1=1:=wrap64 1 (by omega) (by omega)
   have hce:bC (e+1)=2 * bC e+2 * bE 1+400:=rfl
   have rec_:∀ {H:Heap} {hi':Nat} {Q:Out→Heap→Prop},MKx H0 H mid nv N lo hi' p inn→hi'+bC e≤900000000→(∀ H',MKx H0 H' mid nv N lo (hi'+bC e) p inn→Q (.val (.tuple #[])) H')→Gives ((run Tryd.prog E).call 94 [.pointer (some ⟨mid,0,none⟩),.int .i64 (e:Int)] H) Q :=
    fun h hb k=>ih e (by omega) (by omega) h hin hb k
   rcases (show r=0∨r=1∨r=2∨r=3∨r=4∨r=5∨r=6∨r=7 by omega)with rfl | rfl | rfl | rfl | rfl | rfl | rfl | rfl
   · simp[d0]
     refine gives_expr hE hN hl 1 (by omega) h hin rfl (by omega) fun H2 h => ?_
     simp
     refine gives_next hE hN hl h (by omega) (by omega) fun j H4 h5 h6 h => ?_
     simp
     refine gives_idx6 (by decide) (by decide) (by decide) (by decide) (by decide) (by decide) h5 h6 fun s hs => ?_
     simp
     refine gives_put hE h hs (by omega) fun H5 h => ?_
     simp
     refine gives_expr hE hN hl 1 (by omega) h hin rfl (by omega) fun H6 h => ?_
     simp
     exact k _ (h.more (by omega))
   · simp[d0]
     refine gives_expr hE hN hl 1 (by omega) h hin rfl (by omega) fun H2 h => ?_
     simp
     refine gives_next hE hN hl h (by omega) (by omega) fun j H4 h5 h6 h => ?_
     simp
     refine gives_idx6 (by decide) (by decide) (by decide) (by decide) (by decide) (by decide) h5 h6 fun s hs => ?_
     simp
     refine gives_put hE h hs (by omega) fun H5 h => ?_
     simp
     refine gives_expr hE hN hl 1 (by omega) h hin rfl (by omega) fun H6 h => ?_
     simp
     exact k _ (h.more (by omega))
   · simp[d0]
     refine gives_expr hE hN hl 1 (by omega) h hin rfl (by omega) fun H2 h => ?_
     simp
     refine gives_next hE hN hl h (by omega) (by omega) fun j H4 h5 h6 h => ?_
     simp
     refine gives_idx6 (by decide) (by decide) (by decide) (by decide) (by decide) (by decide) h5 h6 fun s hs => ?_
     simp
     refine gives_put hE h hs (by omega) fun H5 h => ?_
     simp
     refine gives_expr hE hN hl 1 (by omega) h hin rfl (by omega) fun H6 h => ?_
     simp
     exact k _ (h.more (by omega))
   · simp[d0]
     refine gives_expr hE hN hl 1 (by omega) h hin rfl (by omega) fun H2 h => ?_
     simp
     refine gives_next hE hN hl h (by omega) (by omega) fun j H4 h5 h6 h => ?_
     simp
     refine gives_idx6 (by decide) (by decide) (by decide) (by decide) (by decide) (by decide) h5 h6 fun s hs => ?_
     simp
     refine gives_put hE h hs (by omega) fun H5 h => ?_
     simp
     refine gives_expr hE hN hl 1 (by omega) h hin rfl (by omega) fun H6 h => ?_
     simp
     exact k _ (h.more (by omega))
   · simp[d0]
     refine gives_next hE hN hl h (by omega) (by omega) fun j H4 h5 h6 h => ?_
     simp
     refine gives_idx2 (by decide) (by decide) h5 h6 fun s hs => ?_
     simp
     refine gives_put hE h hs (by omega) fun H5 h => ?_
     simp
     exact k _ (h.more (by omega))
   · simp[d0]
     refine gives_put hE h (by decide) (by omega) fun H2 h => ?_
     simp[w1]
     refine rec_ h (by omega) fun H3 h => ?_
     simp
     refine gives_put hE h (by decide) (by omega) fun H4 h => ?_
     simp
     exact k _ (h.more (by omega))
   · simp[d0]
     refine gives_put hE h (by decide) (by omega) fun H2 h => ?_
     simp[w1]
     refine rec_ h (by omega) fun H3 h => ?_
     simp[z0]
     refine gives_idx2 (by decide) (by decide) (by omega) (by omega) fun s hs => ?_
     simp
     refine gives_put hE h hs (by omega) fun H5 h => ?_
     simp[w1]
     refine rec_ h (by omega) fun H3 h => ?_
     simp
     refine gives_put hE h (by decide) (by omega) fun H4 h => ?_
     simp
     exact k _ (h.more (by omega))
   · simp[d0]
     refine gives_put hE h (by decide) (by omega) fun H2 h => ?_
     simp[w1]
     refine rec_ h (by omega) fun H3 h => ?_
     simp[z1]
     refine gives_idx2 (by decide) (by decide) (by omega) (by omega) fun s hs => ?_
     simp
     refine gives_put hE h hs (by omega) fun H5 h => ?_
     simp[w1]
     refine rec_ h (by omega) fun H3 h => ?_
     simp
     refine gives_put hE h (by decide) (by omega) fun H4 h => ?_
     simp
     exact k _ (h.more (by omega))
theorem gives_cond (d:Nat)(hd:d≤3){H:Heap}{lo hi:Nat}{p:Int}{inn:ByteArray}(h:MKx H0 H mid nv N lo hi p inn)(hin:InOK inn){z:Int}{Q:Out→Heap→Prop}(hz:z=d)(hb:hi+bC d≤900000000)
  (k:∀ H',MKx H0 H' mid nv N lo (hi+bC d) p inn→Q (.val (.tuple #[])) H'):Gives ((run Tryd.prog E).call 94 [.pointer (some ⟨mid,0,none⟩),.int .i64 z] H) Q:=by
 subst hz
 exact cond_ok hE hN hl d hd h hin hb k
theorem gives_wait {H:Heap}{lo hi:Nat}{p:Int}{inn:ByteArray}(h:MKx H0 H mid nv N lo hi p inn)(hin:InOK inn){Q:Out→Heap→Prop}(hb:hi+200≤900000000)
  (k:∀ H',MKx H0 H' mid nv N lo (hi+200) p inn→Q (.val (.tuple #[])) H'):Gives ((run Tryd.prog E).call 109 [.pointer (some ⟨mid,0,none⟩)] H) Q:=by
 rw[c_mwait hE hN hl,callB,bodyOf]
 obtain⟨a,left,b,n,o1⟩:=h.row
 rcases hin with rfl | rfl | rfl
 all_goals
  simp[Tryd.f109,o1]
  refine gives_put hE h (by decide) (by omega) fun H2 h => ?_
  simp
  refine gives_next hE hN hl h (by omega) (by omega) fun j H4 h5 h6 h => ?_
  simp
  refine gives_idx3 (by decide) (by decide) (by decide) h5 h6 fun s hs => ?_
  simp
  refine gives_put hE h hs (by omega) fun H5 h => ?_
  simp
  refine gives_num hE hN hl h (by omega) (by omega) (by omega) fun H6 h => ?_
  simp
  exact k _ (h.more (by omega))
theorem gives_items {H:Heap}{lo hi:Nat}{p:Int}{inn:ByteArray}(h:MKx H0 H mid nv N lo hi p inn){Q:Out→Heap→Prop}(hb:hi+200≤900000000)
  (k:∀ H',MKx H0 H' mid nv N lo (hi+200) p inn→Q (.val (.tuple #[])) H'):Gives ((run Tryd.prog E).call 95 [.pointer (some ⟨mid,0,none⟩)] H) Q:=by
 rw[c_mitems hE hN hl,callB,bodyOf]
 simp[Tryd.f95]
 refine gives_next hE hN hl h (by omega) (by omega) fun r H1 h3 h4 h => ?_
 by_cases hr:r=0
 · subst hr
   simp
   refine gives_put hE h (by decide) (by omega) fun H2 h => ?_
   simp
   refine gives_put hE h (by decide) (by omega) fun H2 h => ?_
   simp
   refine gives_next hE hN hl h (by omega) (by omega) fun r H1 h3 h4 h => ?_
   obtain⟨s,hs,e⟩:=itoa_ok hE (1+r) (by omega) (by omega) H1
   simp[wrap64 (1+r) (by omega) (by omega),e]
   refine gives_put hE h (by omega) (by omega) fun H2 h => ?_
   simp
   exact k _ (h.more (by omega))
 · simp[hr]
   refine gives_put hE h (by decide) (by omega) fun H2 h => ?_
   simp
   refine gives_next hE hN hl h (by omega) (by omega) fun r H1 h3 h4 h => ?_
   obtain⟨s,hs,e⟩:=itoa_ok hE (1+r) (by omega) (by omega) H1
   simp[wrap64 (1+r) (by omega) (by omega),e]
   refine gives_put hE h (by omega) (by omega) fun H2 h => ?_
   simp
   exact k _ (h.more (by omega))
theorem callee_ok {H:Heap}{lo hi:Nat}{p:Int}{inn:ByteArray}(h:MKx H0 H mid nv N lo hi p inn)(hp0:0≤p)(hp3:p≤3) :
  ∃ r H',(run Tryd.prog E).call 80 [.pointer (some ⟨mid,0,none⟩)] H=some (.val (.int .i64 r),H')∧1≤r∧r≤3∧MKx H0 H' mid nv N lo hi p inn:=by
 suffices key:Gives ((run Tryd.prog E).call 80 [.pointer (some ⟨mid,0,none⟩)] H) fun o H'=>∃ r,o = .val (.int .i64 r)∧1≤r∧r≤3∧MKx H0 H' mid nv N lo hi p inn by
  obtain⟨o,H',e,r,rfl,k⟩:=key
  exact⟨r,H',e,k⟩
 rw[c_mcallee hE hN hl,callB,bodyOf]
 obtain⟨a,left,b,n,o1⟩:=h.row
 by_cases h3:3≤p
 · simp[Tryd.f80,o1,h3]
   exact h
 · obtain⟨r,H1,e,h5,h6,h7⟩:=next_ok hE hN hl h (3 - p) (by omega) (by omega)
   obtain⟨a',left',b',n',o2⟩:=h7.row
   have w1:IntKind.i64.wrap (p+1)=p+1:=wrap64 _ (by omega) (by omega)
   have w2:IntKind.i64.wrap (3 - p)=3 - p:=wrap64 _ (by omega) (by omega)
   have w3:IntKind.i64.wrap (p+1+r)=p+1+r:=wrap64 _ (by omega) (by omega)
   simp[Tryd.f80,o1,h3]
   refine region_plan (by exact pl_callee) ?_
   simp[drawF,o1,w1,w2,e,w3,o2]
   exact⟨by omega,by omega,h7⟩
end
def bF:Nat:=400+bE 1
def FkI (H0:Heap)(mid:Nat)(nv:Value)(N:List Int)(lo hi:Nat)(p:Int)(inn:ByteArray)(n:Nat)(m:Nat)(t:List Value)(K:Heap):Prop :=
 ∃ i:Nat,i≤n∧m=n - i∧rd t 3 = .int .i64 i∧MKx H0 K mid nv N lo (hi+40+i * bF) p inn
section
variable {E:Hooks} (hE:Plain E) {H0:Heap} {mid:Nat} {nv:Value} {N:List Int} (hN:SL H0 nv N) (hl:N.length≤100000)
include hE hN hl
theorem c_mfork (args:List Value)(H:Heap):(run Tryd.prog E).call 48 args H=callB Tryd.prog E Tryd.f48 args H:=call_B Tryd.func48 rfl (by decide +kernel) (hE.no _ rfl rfl) args H
theorem gives_fork {H:Heap}{lo hi:Nat}{p:Int}{inn:ByteArray}(h:MKx H0 H mid nv N lo hi p inn)(hin:InOK inn)(hp0:0≤p)(hp3:p≤3){Q:Out→Heap→Prop}(hb:hi+3 * bF+80≤800000000)
  (k:∀ H',MKx H0 H' mid nv N lo (hi+3 * bF+80) p inn→Q (.val (.tuple #[])) H'):Gives ((run Tryd.prog E).call 48 [.pointer (some ⟨mid,0,none⟩)] H) Q:=by
 rw[c_mfork hE hN hl,callB,bodyOf]
 have hbF:bF=400+bE 1:=rfl
 have hbE:bE 1≤1000:=by decide
 have c1:(⟨#[112]⟩:ByteArray).size=1:=rfl
 have c2:(⟨#[40]⟩:ByteArray).size=1:=rfl
 simp[Tryd.f48]
 refine gives_next hE hN hl h (by omega) (by omega) fun r H1 r1 r3 h => ?_
 obtain⟨n,hn⟩:∃ n:Nat,1+r=n:=⟨(1+r).toNat,by omega⟩
 simp[wrap64 (1+r) (by omega) (by omega)]
 rw[hn]
 refine gives_put hE h (by decide) (by omega) fun H2 h => ?_
 simp
 refine loop_mid2 (fun t K=>MKx H0 K mid nv N lo (hi+40+3 * bF) p inn) (FkI H0 mid nv N lo hi p inn n) n ?_ ?_ ?_
 · exact⟨0,Nat.zero_le _,by omega,by simp,h.more (by omega)⟩
 · rintro m t K hkk ⟨i,hi',rfl,g3,h⟩
   have ht:t.length=47:=hkk.1.trans (by simp[len_Bs])
   have hh:=hkk.all [0,2] (by decide +kernel)
   simp at hh
   obtain⟨u0,u2⟩:=hh
   have w1:IntKind.i64.wrap ((i:Int)+1)=(i:Int)+1:=wrap64 _ (by omega) (by omega)
   have w11:IntKind.i64.wrap 1=1:=wrap64 1 (by omega) (by omega)
   have him:i * bF≤3 * bF:=Nat.mul_le_mul_right _ (by omega)
   rcases Nat.lt_or_ge i n with hlt | hge
   · rcases Nat.eq_zero_or_pos i with rfl | hi0
     · simp[ht,u0,u2,g3,show 0<n by omega]
       obtain⟨r,H2,e,r1,r3,h⟩:=callee_ok hE hN hl h hp0 hp3
       obtain⟨s,hs,e2⟩:=itoa_ok hE r (by omega) (by omega) H2
       have f1:=fun a b=>bin_cat2 a b ⟨#[112]⟩ s (by rw[c1];omega)
       have f2:=fun a b=>bin_cat2 a b (⟨#[112]⟩++s) ⟨#[40]⟩ (by rw[ByteArray.size_append,c1,c2];omega)
       simp[ht,u0,e,e2,f1,f2]
       refine gives_put hE h (s:=⟨#[112]⟩++s ++ ⟨#[40]⟩) (by simp only[ByteArray.size_append,c1,c2];omega) (by omega) fun H3 h => ?_
       simp[ht,u0]
       refine gives_expr hE hN hl 1 (by omega) h hin rfl (by omega) fun H4 h => ?_
       simp[ht,u0]
       refine gives_put hE h (by decide) (by omega) fun H5 h => ?_
       simp[ht,u0]
       refine gives_next hE hN hl h (by omega) (by omega) fun r H6 r1 r3 h => ?_
       by_cases hr:0<r
       · simp[ht,hr,u0]
         refine gives_put hE h (by decide) (by omega) fun H7 h => ?_
         simp[ht,u0]
         refine gives_next hE hN hl h (by omega) (by omega) fun r H8 r1 r3 h => ?_
         obtain⟨s,hs,e2⟩:=itoa_ok hE (1+r) (by omega) (by omega) H8
         simp[ht,wrap64 (1+r) (by omega) (by omega),e2]
         refine gives_put hE h (by omega) (by omega) fun H9 h => ?_
         simp[ht,u0]
         refine gives_next hE hN hl h (by omega) (by omega) fun r H10 r1 r3 h => ?_
         by_cases hr:r=1
         · simp[ht,hr,u0]
           refine gives_put hE h (by decide) (by omega) fun H11 h => ?_
           simp[ht,g3,w1,w11]
           exact⟨n - 1,by omega,1,by omega,rfl,by simp[ht],h.more (by omega)⟩
         · simp[hr,u0,ht,g3,w1,w11]
           exact⟨n - 1,by omega,1,by omega,rfl,by simp[ht],h.more (by omega)⟩
       · simp[hr,u0,ht,g3,w1,w11]
         exact⟨n - 1,by omega,1,by omega,rfl,by simp[ht],h.more (by omega)⟩
     · simp[ht,u0,u2,g3,hlt,hi0]
       refine gives_put hE h (by decide) (by omega) fun H1 h => ?_
       simp[ht,u0]
       obtain⟨r,H2,e,r1,r3,h⟩:=callee_ok hE hN hl h hp0 hp3
       obtain⟨s,hs,e2⟩:=itoa_ok hE r (by omega) (by omega) H2
       have f1:=fun a b=>bin_cat2 a b ⟨#[112]⟩ s (by rw[c1];omega)
       have f2:=fun a b=>bin_cat2 a b (⟨#[112]⟩++s) ⟨#[40]⟩ (by rw[ByteArray.size_append,c1,c2];omega)
       simp[ht,u0,e,e2,f1,f2]
       refine gives_put hE h (s:=⟨#[112]⟩++s ++ ⟨#[40]⟩) (by simp only[ByteArray.size_append,c1,c2];omega) (by omega) fun H3 h => ?_
       simp[ht,u0]
       refine gives_expr hE hN hl 1 (by omega) h hin rfl (by omega) fun H4 h => ?_
       simp[ht,u0]
       refine gives_put hE h (by decide) (by omega) fun H5 h => ?_
       simp[ht,u0]
       refine gives_next hE hN hl h (by omega) (by omega) fun r H6 r1 r3 h => ?_
       by_cases hr:0<r
       · simp[ht,hr,u0]
         refine gives_put hE h (by decide) (by omega) fun H7 h => ?_
         simp[ht,u0]
         refine gives_next hE hN hl h (by omega) (by omega) fun r H8 r1 r3 h => ?_
         obtain⟨s,hs,e2⟩:=itoa_ok hE (1+r) (by omega) (by omega) H8
         simp[ht,wrap64 (1+r) (by omega) (by omega),e2]
         refine gives_put hE h (by omega) (by omega) fun H9 h => ?_
         simp[ht,u0]
         refine gives_next hE hN hl h (by omega) (by omega) fun r H10 r1 r3 h => ?_
         by_cases hr:r=1
         · simp[ht,hr,u0]
           refine gives_put hE h (by decide) (by omega) fun H11 h => ?_
           simp[ht,g3,w1,w11]
           exact⟨n - (i+1),by omega,i+1,by omega,rfl,by simp[ht],h.more (by rw[Nat.add_mul];omega)⟩
         · simp[hr,u0,ht,g3,w1,w11]
           exact⟨n - (i+1),by omega,i+1,by omega,rfl,by simp[ht],h.more (by rw[Nat.add_mul];omega)⟩
       · simp[hr,u0,ht,g3,w1,w11]
         exact⟨n - (i+1),by omega,i+1,by omega,rfl,by simp[ht],h.more (by rw[Nat.add_mul];omega)⟩
   · simp[ht,u2,g3,show ¬i<n by omega]
     exact h.more (by omega)
 · rintro t K hkk h
   have ht:t.length=47:=hkk.1.trans (by simp[len_Bs])
   have hh:=hkk.all [0] (by decide +kernel)
   simp at hh
   simp[ht,hh]
   refine gives_put hE h (by decide) (by omega) fun H2 h => ?_
   simp
   exact k _ (h.more (by omega))
end
theorem MKx.turn {H0 H:Heap}{mid:Nat}{nv:Value}{N:List Int}{lo hi:Nat}{p:Int}{inn:ByteArray}(h:MKx H0 H mid nv N lo hi p inn):∃ (a:Nat)(left:Int)(b:Option Addr)(n:Nat),H.get mid = .row true 0 1 [nv,.int .i64 a,.slice b n n,.int .i64 p,.string inn,.int .i64 left] ∧
  ∀ (inn':ByteArray) (left':Int),MKx H0 (H.set mid (.row true 0 1 [nv,.int .i64 a,.slice b n n,.int .i64 p,.string inn',.int .i64 left'])) mid nv N lo hi p inn':=by
 obtain⟨a,left,ov,out,hm⟩:=h
 obtain⟨b,rfl⟩:=hm.go.slice
 exact⟨a,left,b,out.length,hm.obj,fun inn' left'=>⟨a,left',_,out,MK.turn hm hm.ha p inn' left'⟩⟩
def bT:Nat→Nat
 | 0=>3 * bF+bC 1+bE 2+2000
 | d+1=>2 * (3 * (bT d+40)+40)+3 * bF+bC 1+bE 2+2000
def bS (d:Nat):Nat:=3 * (bT d+40)+40
def StmtOK (E:Hooks)(H0:Heap)(mid:Nat)(nv:Value)(N:List Int)(p:Int)(f:FuncId)(d b:Nat):Prop:=∀ {H:Heap} {lo hi:Nat} {inn:ByteArray} {Q:Out→Heap→Prop},MKx H0 H mid nv N lo hi p inn→InOK inn→hi+b≤800000000 →
 (∀ H',MKx H0 H' mid nv N lo (hi+b) p inn→Q (.val (.tuple #[])) H')→Gives ((run Tryd.prog E).call f [.pointer (some ⟨mid,0,none⟩),.int .i64 (d:Int)] H) Q
def StI (H0:Heap)(mid:Nat)(nv:Value)(N:List Int)(lo hi:Nat)(p:Int)(inn:ByteArray)(B n:Nat)(m:Nat)(t:List Value)(K:Heap):Prop :=
 ∃ i:Nat,i≤n∧m=n - i∧rd t 5 = .int .i64 i∧MKx H0 K mid nv N lo (hi+i * B) p inn
section
variable {E:Hooks} (hE:Plain E) {H0:Heap} {mid:Nat} {nv:Value} {N:List Int} (hN:SL H0 nv N) (hl:N.length≤100000)
include hE hN hl
theorem c_mstmts (args:List Value)(H:Heap):(run Tryd.prog E).call 47 args H=callB Tryd.prog E Tryd.f47 args H:=call_B Tryd.func47 rfl (by decide +kernel) (hE.no _ rfl rfl) args H
theorem c_mregion (args:List Value)(H:Heap):(run Tryd.prog E).call 96 args H=callB Tryd.prog E Tryd.f96 args H:=call_B Tryd.func96 rfl (by decide +kernel) (hE.no _ rfl rfl) args H
theorem stmts_of {p:Int}{d:Nat}(hst:StmtOK E H0 mid nv N p 79 d (bT d)):StmtOK E H0 mid nv N p 47 d (bS d):=by
 intro H lo hi inn Q h hin hb k
 rw[c_mstmts hE hN hl,callB,bodyOf]
 have hbS:bS d=3 * (bT d+40)+40:=rfl
 simp[Tryd.f47]
 refine gives_next hE hN hl h (by omega) (by omega) fun r H1 r1 r3 h => ?_
 obtain⟨n,hn⟩:∃ n:Nat,1+r=n:=⟨(1+r).toNat,by omega⟩
 simp[wrap64 (1+r) (by omega) (by omega)]
 rw[hn]
 refine loop_wp (StI H0 mid nv N lo hi p inn (bT d+40) n) n ?_ ?_
 · exact⟨0,Nat.zero_le _,by omega,by simp,h.more (by omega)⟩
 · rintro m t K hkk ⟨i,hi',rfl,g5,h⟩
   have ht:t.length=21:=hkk.1.trans (by simp[len_Bs])
   have hh:=hkk.all [0,1,4] (by decide +kernel)
   simp at hh
   obtain⟨u0,u1,u4⟩:=hh
   have w1:IntKind.i64.wrap ((i:Int)+1)=(i:Int)+1:=wrap64 _ (by omega) (by omega)
   have w11:IntKind.i64.wrap 1=1:=wrap64 1 (by omega) (by omega)
   have him:i * (bT d+40)≤3 * (bT d+40):=Nat.mul_le_mul_right _ (by omega)
   rcases Nat.lt_or_ge i n with hlt | hge
   · have him2:i * (bT d+40)≤2 * (bT d+40):=Nat.mul_le_mul_right _ (by omega)
     rcases Nat.eq_zero_or_pos i with rfl | hi0
     · simp[ht,u0,u1,u4,g5,show 0<n by omega]
       refine hst h hin (by omega) fun H2 h => ?_
       simp[ht,g5,w11]
       exact⟨n - 1,by omega,1,by omega,rfl,by simp[ht],h.more (by omega)⟩
     · simp[ht,u0,u1,u4,g5,hlt,hi0]
       refine gives_put hE h (by decide) (by omega) fun H1 h => ?_
       simp[ht,u0,u1]
       refine hst h hin (by omega) fun H2 h => ?_
       simp[ht,g5,w1]
       exact⟨n - (i+1),by omega,i+1,by omega,rfl,by simp[ht],h.more (by rw[Nat.add_mul];omega)⟩
   · simp[ht,u4,g5,show ¬i<n by omega]
     exact k _ (h.more (by omega))
theorem region_of {p:Int}{e:Nat}(he:e≤3)(hrec:StmtOK E H0 mid nv N p 47 e (bS e)):StmtOK E H0 mid nv N p 96 (e+1) (bS e+800):=by
 intro H lo hi inn Q h hin hb k
 rw[c_mregion hE hN hl,callB,bodyOf]
 have w1:IntKind.i64.wrap (e:Int)=e:=wrap64 _ (by omega) (by omega)
 obtain⟨a0,left0,b0,n0,o0,_⟩:=h.turn
 simp[Tryd.f96,o0]
 refine gives_next hE hN hl h (by omega) (by omega) fun r H1 h3 h4 h => ?_
 obtain⟨a,left,b,n,o1,ht⟩:=h.turn
 have e2:∀ (j:Int) (v:ByteArray),j=0∧v=⟨#[118]⟩∨j=1∧v=⟨#[119]⟩→idxA Tryd.prog 157 (some (.agg ⟨[.string ⟨#[118]⟩,.string ⟨#[119]⟩]⟩)) (some (.int .i64 j)) H1=some (.val (.string v),H1):=by
  rintro j v (⟨rfl,rfl⟩ | ⟨rfl,rfl⟩)
  · exact idxA_arr Tryd.underlying157 (by simp) (by simp) (by omega) (by omega) rfl H1
  · exact idxA_arr Tryd.underlying157 (by simp) (by simp) (by omega) (by omega) rfl H1
 have f1:=fun a b=>bin_cat2 a b ⟨#[114,101,103,105,111,110,32]⟩ ⟨#[118]⟩ (by decide)
 have f2:=fun a b=>bin_cat2 a b ⟨#[114,101,103,105,111,110,32]⟩ ⟨#[119]⟩ (by decide)
 rcases (show r=0∨r=1 by omega)with rfl | rfl
 · have ev:=e2 0 ⟨#[118]⟩ (.inl ⟨rfl,rfl⟩)
   rcases hin with rfl | rfl | rfl
   · simp[ev,f1]
     simp[o1,f1,f2]
     refine gives_put hE (ht ⟨#[118]⟩ left) (s:=⟨#[114,101,103,105,111,110,32]⟩ ++ ⟨#[118]⟩) (by decide) (by omega) fun H3 h => ?_
     simp
     refine gives_next hE hN hl h (by omega) (by omega) fun r H4 h3 h4 h => ?_
     by_cases hr:r=1
     · simp[hr]
       refine gives_put hE h (by decide) (by omega) fun H5 h => ?_
       simp
       refine gives_wait hE hN hl h (by unfold InOK;simp) (by omega) fun H6 h => ?_
       simp
       refine gives_put hE h (by decide) (by omega) fun H7 h => ?_
       simp
       refine gives_put hE h (by decide) (by omega) fun H8 h => ?_
       simp[w1]
       refine hrec h (by unfold InOK;simp) (by omega) fun H9 h => ?_
       simp
       refine gives_put hE h (by decide) (by omega) fun H10 h => ?_
       obtain⟨a',left',b',n',o2,ht2⟩:=h.turn
       simp[o2]
       exact k _ ((ht2 ByteArray.empty left').more (by omega))
     · simp[hr]
       refine gives_put hE h (by decide) (by omega) fun H7 h => ?_
       simp
       refine gives_put hE h (by decide) (by omega) fun H8 h => ?_
       simp[w1]
       refine hrec h (by unfold InOK;simp) (by omega) fun H9 h => ?_
       simp
       refine gives_put hE h (by decide) (by omega) fun H10 h => ?_
       obtain⟨a',left',b',n',o2,ht2⟩:=h.turn
       simp[o2]
       exact k _ ((ht2 ByteArray.empty left').more (by omega))
   · simp[ev]
     refine gives_put hE h (by decide) (by omega) fun H3 h => ?_
     simp
     exact k _ (h.more (by omega))
   · simp[ev]
     refine gives_put hE h (by decide) (by omega) fun H3 h => ?_
     simp
     exact k _ (h.more (by omega))
 · have ev:=e2 1 ⟨#[119]⟩ (.inr ⟨rfl,rfl⟩)
   rcases hin with rfl | rfl | rfl
   · simp[ev,f2]
     simp[o1,f1,f2]
     refine gives_put hE (ht ⟨#[119]⟩ left) (s:=⟨#[114,101,103,105,111,110,32]⟩ ++ ⟨#[119]⟩) (by decide) (by omega) fun H3 h => ?_
     simp
     refine gives_next hE hN hl h (by omega) (by omega) fun r H4 h3 h4 h => ?_
     by_cases hr:r=1
     · simp[hr]
       refine gives_put hE h (by decide) (by omega) fun H5 h => ?_
       simp
       refine gives_wait hE hN hl h (by unfold InOK;simp) (by omega) fun H6 h => ?_
       simp
       refine gives_put hE h (by decide) (by omega) fun H7 h => ?_
       simp
       refine gives_put hE h (by decide) (by omega) fun H8 h => ?_
       simp[w1]
       refine hrec h (by unfold InOK;simp) (by omega) fun H9 h => ?_
       simp
       refine gives_put hE h (by decide) (by omega) fun H10 h => ?_
       obtain⟨a',left',b',n',o2,ht2⟩:=h.turn
       simp[o2]
       exact k _ ((ht2 ByteArray.empty left').more (by omega))
     · simp[hr]
       refine gives_put hE h (by decide) (by omega) fun H7 h => ?_
       simp
       refine gives_put hE h (by decide) (by omega) fun H8 h => ?_
       simp[w1]
       refine hrec h (by unfold InOK;simp) (by omega) fun H9 h => ?_
       simp
       refine gives_put hE h (by decide) (by omega) fun H10 h => ?_
       obtain⟨a',left',b',n',o2,ht2⟩:=h.turn
       simp[o2]
       exact k _ ((ht2 ByteArray.empty left').more (by omega))
   · simp[ev]
     refine gives_put hE h (by decide) (by omega) fun H3 h => ?_
     simp
     exact k _ (h.more (by omega))
   · simp[ev]
     refine gives_put hE h (by decide) (by omega) fun H3 h => ?_
     simp
     exact k _ (h.more (by omega))
end
def SJ0 (H0:Heap)(mid:Nat)(nv:Value)(N:List Int)(lo hi:Nat)(p:Int)(inn:ByteArray)(d:Nat)(t:List Value)(K:Heap):Prop :=
 t.length=198∧rd t 0 = .pointer (some ⟨mid,0,none⟩)∧rd t 1 = .int .i64 (d:Int)∧MKx H0 K mid nv N lo hi p inn
def SJ1 (H0:Heap)(mid:Nat)(nv:Value)(N:List Int)(lo hi:Nat)(p:Int)(inn:ByteArray)(d:Nat)(t:List Value)(K:Heap):Prop :=
 t.length=198∧rd t 0 = .pointer (some ⟨mid,0,none⟩)∧rd t 1 = .int .i64 (d:Int)∧(∃ r:Int,rd t 4 = .int .i64 r∧0≤r∧r<20)∧MKx H0 K mid nv N lo hi p inn
def SJ2 (H0:Heap)(mid:Nat)(nv:Value)(N:List Int)(lo hi:Nat)(p:Int)(inn:ByteArray)(d:Nat)(t:List Value)(K:Heap):Prop :=
 t.length=198∧rd t 0 = .pointer (some ⟨mid,0,none⟩)∧rd t 1 = .int .i64 (d:Int)∧(∃ r:Int,rd t 4 = .int .i64 r∧0≤r∧r<20∧(r=2∨r=3∨r=5∨14≤r→1≤d))∧MKx H0 K mid nv N lo hi p inn
section
variable {E:Hooks} (hE:Plain E) {H0:Heap} {mid:Nat} {nv:Value} {N:List Int} (hN:SL H0 nv N) (hl:N.length≤100000)
include hE hN hl
theorem c_mstmt (args:List Value)(H:Heap):(run Tryd.prog E).call 79 args H=callB Tryd.prog E Tryd.f79 args H:=call_B Tryd.func79 rfl (by decide +kernel) (hE.no _ rfl rfl) args H
theorem stmt_of {p:Int}(hp0:0≤p)(hp3:p≤3){d:Nat}(hd:d≤3)(hrec:∀ e,d=e+1→StmtOK E H0 mid nv N p 47 e (bS e)):StmtOK E H0 mid nv N p 79 d (bT d):=by
 intro H lo hi inn Q h hin hb k
 have hbT:3 * bF+bC 1+bE 2+2000≤bT d:=by
  cases d with
  | zero=>exact Nat.le_refl _
  | succ d =>
   show _≤2 * (3 * (bT d+40)+40)+3 * bF+bC 1+bE 2+2000
   omega
 have hb1:bE 1≤bE 2:=by decide
 have c1:(⟨#[112]⟩:ByteArray).size=1:=rfl
 have c2:(⟨#[40]⟩:ByteArray).size=1:=rfl
 rw[c_mstmt hE hN hl,callB,bodyOf]
 simp only[Tryd.f79,gives_body]
 rw[code_seq,ends_then]
 refine ends_cut (SJ0 H0 mid nv N lo hi p inn d) ?_ ?_
 · obtain⟨a,left,b,n,o1,ht⟩:=h.turn
   simp[o1,len_Bs]
   exact⟨by simp[len_Bs],by simp[len_Bs],by simp[len_Bs],ht inn _⟩
 clear h
 rintro t K ⟨ht,u0,u1,h⟩
 rw[code_seq,ends_then]
 refine ends_cut (SJ1 H0 mid nv N lo hi p inn d) ?_ ?_
 · simp[ht,u0]
   refine gives_next hE hN hl h (by omega) (by omega) fun r H1 r1 r3 h => ?_
   simp[ht]
   exact⟨by simp[ht],by simp[ht,u0],by simp[ht,u1],⟨r,by simp[ht],r1,r3⟩,h⟩
 clear u0 u1 ht h
 rintro t K ⟨ht,u0,u1,⟨r,u4,r1,r3⟩,h⟩
 rw[code_seq,ends_then]
 refine ends_cut (SJ2 H0 mid nv N lo hi p inn d) ?_ ?_
 · obtain⟨a,left,b,n,o1⟩:=h.row
   rcases Nat.eq_zero_or_pos d with rfl | hd0
   · rcases (show r=0∨r=1∨r=2∨r=3∨r=4∨r=5∨r=6∨r=7∨r=8∨r=9∨r=10∨r=11∨r=12∨r=13∨r=14∨r=15∨r=16∨r=17∨r=18∨r=19 by omega)with rfl | rfl | rfl | rfl | rfl | rfl | rfl | rfl | rfl | rfl | rfl | rfl | rfl | rfl | rfl | rfl | rfl | rfl | rfl | rfl
     · simp[ht,u0,u1,u4]
       exact⟨by simp[ht],by simp[ht,u0],by simp[ht,u1],⟨0,by simp[ht,u4],by omega,by omega,by omega⟩,h⟩
     · simp[ht,u0,u1,u4]
       exact⟨by simp[ht],by simp[ht,u0],by simp[ht,u1],⟨1,by simp[ht,u4],by omega,by omega,by omega⟩,h⟩
     · simp[ht,u0,u1,u4]
       exact⟨by simp[ht],by simp[ht,u0],by simp[ht,u1],⟨12,by simp[ht],by omega,by omega,by omega⟩,h⟩
     · simp[ht,u0,u1,u4]
       exact⟨by simp[ht],by simp[ht,u0],by simp[ht,u1],⟨12,by simp[ht],by omega,by omega,by omega⟩,h⟩
     · simp[ht,u0,u1,u4]
       exact⟨by simp[ht],by simp[ht,u0],by simp[ht,u1],⟨4,by simp[ht,u4],by omega,by omega,by omega⟩,h⟩
     · simp[ht,u0,u1,u4]
       exact⟨by simp[ht],by simp[ht,u0],by simp[ht,u1],⟨12,by simp[ht],by omega,by omega,by omega⟩,h⟩
     · simp[ht,u0,u1,u4]
       exact⟨by simp[ht],by simp[ht,u0],by simp[ht,u1],⟨6,by simp[ht,u4],by omega,by omega,by omega⟩,h⟩
     · simp[ht,u0,u1,u4]
       exact⟨by simp[ht],by simp[ht,u0],by simp[ht,u1],⟨7,by simp[ht,u4],by omega,by omega,by omega⟩,h⟩
     · simp[ht,u0,u1,u4]
       exact⟨by simp[ht],by simp[ht,u0],by simp[ht,u1],⟨8,by simp[ht,u4],by omega,by omega,by omega⟩,h⟩
     · simp[ht,u0,u1,u4]
       exact⟨by simp[ht],by simp[ht,u0],by simp[ht,u1],⟨9,by simp[ht,u4],by omega,by omega,by omega⟩,h⟩
     · simp[ht,u0,u1,u4]
       exact⟨by simp[ht],by simp[ht,u0],by simp[ht,u1],⟨10,by simp[ht,u4],by omega,by omega,by omega⟩,h⟩
     · simp[ht,u0,u1,u4]
       exact⟨by simp[ht],by simp[ht,u0],by simp[ht,u1],⟨11,by simp[ht,u4],by omega,by omega,by omega⟩,h⟩
     · simp[ht,u0,u1,u4]
       exact⟨by simp[ht],by simp[ht,u0],by simp[ht,u1],⟨12,by simp[ht,u4],by omega,by omega,by omega⟩,h⟩
     · simp[ht,u0,u1,u4]
       exact⟨by simp[ht],by simp[ht,u0],by simp[ht,u1],⟨13,by simp[ht,u4],by omega,by omega,by omega⟩,h⟩
     · simp[ht,u0,u1,u4]
       exact⟨by simp[ht],by simp[ht,u0],by simp[ht,u1],⟨12,by simp[ht],by omega,by omega,by omega⟩,h⟩
     · simp[ht,u0,u1,u4]
       exact⟨by simp[ht],by simp[ht,u0],by simp[ht,u1],⟨12,by simp[ht],by omega,by omega,by omega⟩,h⟩
     · simp[ht,u0,u1,u4]
       exact⟨by simp[ht],by simp[ht,u0],by simp[ht,u1],⟨12,by simp[ht],by omega,by omega,by omega⟩,h⟩
     · simp[ht,u0,u1,u4]
       exact⟨by simp[ht],by simp[ht,u0],by simp[ht,u1],⟨12,by simp[ht],by omega,by omega,by omega⟩,h⟩
     · simp[ht,u0,u1,u4]
       exact⟨by simp[ht],by simp[ht,u0],by simp[ht,u1],⟨12,by simp[ht],by omega,by omega,by omega⟩,h⟩
     · simp[ht,u0,u1,u4]
       exact⟨by simp[ht],by simp[ht,u0],by simp[ht,u1],⟨12,by simp[ht],by omega,by omega,by omega⟩,h⟩
   · have hd1:¬d=0:=by omega
     by_cases hlf:left<0
     · rcases (show r=0∨r=1∨r=2∨r=3∨r=4∨r=5∨r=6∨r=7∨r=8∨r=9∨r=10∨r=11∨r=12∨r=13∨r=14∨r=15∨r=16∨r=17∨r=18∨r=19 by omega)with rfl | rfl | rfl | rfl | rfl | rfl | rfl | rfl | rfl | rfl | rfl | rfl | rfl | rfl | rfl | rfl | rfl | rfl | rfl | rfl
       · simp[ht,u0,u1,u4,o1,hd1,hlf]
         exact⟨by simp[ht],by simp[ht,u0],by simp[ht,u1],⟨0,by simp[ht,u4],by omega,by omega,by omega⟩,h⟩
       · simp[ht,u0,u1,u4,o1,hd1,hlf]
         exact⟨by simp[ht],by simp[ht,u0],by simp[ht,u1],⟨1,by simp[ht,u4],by omega,by omega,by omega⟩,h⟩
       · simp[ht,u0,u1,u4,o1,hd1,hlf]
         exact⟨by simp[ht],by simp[ht,u0],by simp[ht,u1],⟨12,by simp[ht],by omega,by omega,by omega⟩,h⟩
       · simp[ht,u0,u1,u4,o1,hd1,hlf]
         exact⟨by simp[ht],by simp[ht,u0],by simp[ht,u1],⟨12,by simp[ht],by omega,by omega,by omega⟩,h⟩
       · simp[ht,u0,u1,u4,o1,hd1,hlf]
         exact⟨by simp[ht],by simp[ht,u0],by simp[ht,u1],⟨4,by simp[ht,u4],by omega,by omega,by omega⟩,h⟩
       · simp[ht,u0,u1,u4,o1,hd1,hlf]
         exact⟨by simp[ht],by simp[ht,u0],by simp[ht,u1],⟨12,by simp[ht],by omega,by omega,by omega⟩,h⟩
       · simp[ht,u0,u1,u4,o1,hd1,hlf]
         exact⟨by simp[ht],by simp[ht,u0],by simp[ht,u1],⟨6,by simp[ht,u4],by omega,by omega,by omega⟩,h⟩
       · simp[ht,u0,u1,u4,o1,hd1,hlf]
         exact⟨by simp[ht],by simp[ht,u0],by simp[ht,u1],⟨7,by simp[ht,u4],by omega,by omega,by omega⟩,h⟩
       · simp[ht,u0,u1,u4,o1,hd1,hlf]
         exact⟨by simp[ht],by simp[ht,u0],by simp[ht,u1],⟨8,by simp[ht,u4],by omega,by omega,by omega⟩,h⟩
       · simp[ht,u0,u1,u4,o1,hd1,hlf]
         exact⟨by simp[ht],by simp[ht,u0],by simp[ht,u1],⟨9,by simp[ht,u4],by omega,by omega,by omega⟩,h⟩
       · simp[ht,u0,u1,u4,o1,hd1,hlf]
         exact⟨by simp[ht],by simp[ht,u0],by simp[ht,u1],⟨10,by simp[ht,u4],by omega,by omega,by omega⟩,h⟩
       · simp[ht,u0,u1,u4,o1,hd1,hlf]
         exact⟨by simp[ht],by simp[ht,u0],by simp[ht,u1],⟨11,by simp[ht,u4],by omega,by omega,by omega⟩,h⟩
       · simp[ht,u0,u1,u4,o1,hd1,hlf]
         exact⟨by simp[ht],by simp[ht,u0],by simp[ht,u1],⟨12,by simp[ht,u4],by omega,by omega,by omega⟩,h⟩
       · simp[ht,u0,u1,u4,o1,hd1,hlf]
         exact⟨by simp[ht],by simp[ht,u0],by simp[ht,u1],⟨13,by simp[ht,u4],by omega,by omega,by omega⟩,h⟩
       · simp[ht,u0,u1,u4,o1,hd1,hlf]
         exact⟨by simp[ht],by simp[ht,u0],by simp[ht,u1],⟨12,by simp[ht],by omega,by omega,by omega⟩,h⟩
       · simp[ht,u0,u1,u4,o1,hd1,hlf]
         exact⟨by simp[ht],by simp[ht,u0],by simp[ht,u1],⟨12,by simp[ht],by omega,by omega,by omega⟩,h⟩
       · simp[ht,u0,u1,u4,o1,hd1,hlf]
         exact⟨by simp[ht],by simp[ht,u0],by simp[ht,u1],⟨12,by simp[ht],by omega,by omega,by omega⟩,h⟩
       · simp[ht,u0,u1,u4,o1,hd1,hlf]
         exact⟨by simp[ht],by simp[ht,u0],by simp[ht,u1],⟨12,by simp[ht],by omega,by omega,by omega⟩,h⟩
       · simp[ht,u0,u1,u4,o1,hd1,hlf]
         exact⟨by simp[ht],by simp[ht,u0],by simp[ht,u1],⟨12,by simp[ht],by omega,by omega,by omega⟩,h⟩
       · simp[ht,u0,u1,u4,o1,hd1,hlf]
         exact⟨by simp[ht],by simp[ht,u0],by simp[ht,u1],⟨12,by simp[ht],by omega,by omega,by omega⟩,h⟩
     · simp[ht,u0,u1,u4,o1,hd1,hlf]
       exact⟨by simp[ht],by simp[ht,u0],by simp[ht,u1],⟨r,by simp[ht,u4],r1,r3,fun _=>hd0⟩,h⟩
 clear u0 u1 u4 ht h r1 r3
 clear r
 rintro t K ⟨ht,u0,u1,⟨r,u4,r1,r3,hk⟩,h⟩
 rcases (show r=0∨r=1∨r=2∨r=3∨r=4∨r=5∨r=6∨r=7∨r=8∨r=9∨r=10∨r=11∨r=12∨r=13∨r=14∨r=15∨r=16∨r=17∨r=18∨r=19 by omega)with rfl | rfl | rfl | rfl | rfl | rfl | rfl | rfl | rfl | rfl | rfl | rfl | rfl | rfl | rfl | rfl | rfl | rfl | rfl | rfl
 · simp[ht,u0,u4]
   refine gives_put hE h (by decide) (by omega) fun _ h => ?_
   simp[ht,u0]
   exact k _ (h.more (by omega))
 · simp[ht,u0,u4]
   refine gives_put hE h (by decide) (by omega) fun _ h => ?_
   simp[ht,u0]
   refine gives_expr hE hN hl 2 (by omega) h hin rfl (by omega) fun _ h => ?_
   simp[ht,u0]
   exact k _ (h.more (by omega))
 · obtain⟨e,rfl⟩:∃ e,d=e+1:=⟨d - 1,by have:=hk (by omega);omega⟩
   change hi+(2 * (3 * (bT e+40)+40)+3 * bF+bC 1+bE 2+2000)≤800000000 at hb
   change ∀ H',MKx H0 H' mid nv N lo (hi+(2 * (3 * (bT e+40)+40)+3 * bF+bC 1+bE 2+2000)) p inn→Q (.val (.tuple #[])) H' at k
   have hbS:bS e=3 * (bT e+40)+40:=rfl
   have w1:IntKind.i64.wrap (e:Int)=e:=wrap64 _ (by omega) (by omega)
   simp only[Int.natCast_add,Int.natCast_one,Int.natCast_succ]at u1
   simp[ht,u0,u4]
   refine gives_put hE h (by decide) (by omega) fun _ h => ?_
   simp[ht,u0]
   refine gives_cond hE hN hl 1 (by omega) h hin rfl (by omega) fun _ h => ?_
   simp[ht,u0]
   refine gives_put hE h (by decide) (by omega) fun _ h => ?_
   simp[ht,u0,u1,w1]
   refine hrec e rfl h hin (by omega) fun _ h => ?_
   simp[ht,u0]
   refine gives_next hE hN hl h (by omega) (by omega) fun r _ r1 r2 h => ?_
   by_cases hr:r=1
   · simp[ht,u0,hr]
     refine gives_put hE h (by decide) (by omega) fun _ h => ?_
     simp[ht,u0,u1,w1]
     refine hrec e rfl h hin (by omega) fun _ h => ?_
     simp[ht,u0]
     refine gives_put hE h (by decide) (by omega) fun _ h => ?_
     simp[ht,u0]
     exact k _ (h.more (by omega))
   · simp[ht,u0,hr]
     refine gives_put hE h (by decide) (by omega) fun _ h => ?_
     simp[ht,u0]
     exact k _ (h.more (by omega))
 · obtain⟨e,rfl⟩:∃ e,d=e+1:=⟨d - 1,by have:=hk (by omega);omega⟩
   change hi+(2 * (3 * (bT e+40)+40)+3 * bF+bC 1+bE 2+2000)≤800000000 at hb
   change ∀ H',MKx H0 H' mid nv N lo (hi+(2 * (3 * (bT e+40)+40)+3 * bF+bC 1+bE 2+2000)) p inn→Q (.val (.tuple #[])) H' at k
   have hbS:bS e=3 * (bT e+40)+40:=rfl
   have w1:IntKind.i64.wrap (e:Int)=e:=wrap64 _ (by omega) (by omega)
   simp only[Int.natCast_add,Int.natCast_one,Int.natCast_succ]at u1
   simp[ht,u0,u4]
   refine gives_put hE h (by decide) (by omega) fun _ h => ?_
   simp[ht,u0]
   refine gives_num hE hN hl h (by omega) (by omega) (by omega) fun _ h => ?_
   simp[ht,u0]
   refine gives_put hE h (by decide) (by omega) fun _ h => ?_
   simp[ht,u0,u1,w1]
   refine hrec e rfl h hin (by omega) fun _ h => ?_
   simp[ht,u0]
   refine gives_put hE h (by decide) (by omega) fun _ h => ?_
   simp[ht,u0]
   exact k _ (h.more (by omega))
 · simp[ht,u0,u4]
   refine gives_put hE h (by decide) (by omega) fun _ h => ?_
   simp[ht,u0]
   refine gives_num hE hN hl h (by omega) (by omega) (by omega) fun _ h => ?_
   simp[ht,u0]
   refine gives_put hE h (by decide) (by omega) fun _ h => ?_
   simp[ht,u0]
   refine gives_expr hE hN hl 1 (by omega) h hin rfl (by omega) fun _ h => ?_
   simp[ht,u0]
   exact k _ (h.more (by omega))
 · obtain⟨a,left,b,n,o1⟩:=h.row
   by_cases hp:p=3
   · simp[ht,u0,u4,o1,hp]
     refine gives_next hE hN hl h (by omega) (by omega) fun r _ r1 r2 h => ?_
     by_cases hr:0<r
     · simp[ht,u0,hr]
       refine gives_put hE h (by decide) (by omega) fun _ h => ?_
       simp[ht,u0]
       exact k _ (h.more (by omega))
     · simp[ht,u0,hr]
       obtain⟨r,H2,e1,r1,r3,h⟩:=callee_ok hE hN hl h hp0 hp3
       obtain⟨s,hs,e2⟩:=itoa_ok hE r (by omega) (by omega) H2
       have f1:=fun a b=>bin_cat2 a b ⟨#[112]⟩ s (by rw[c1];omega)
       have f2:=fun a b=>bin_cat2 a b (⟨#[112]⟩++s) ⟨#[40]⟩ (by rw[ByteArray.size_append,c1,c2];omega)
       simp[ht,u0,e1,e2,f1,f2]
       refine gives_put hE h (s:=⟨#[112]⟩++s ++ ⟨#[40]⟩) (by simp only[ByteArray.size_append,c1,c2];omega) (by omega) fun _ h => ?_
       simp[ht,u0]
       refine gives_expr hE hN hl 1 (by omega) h hin rfl (by omega) fun _ h => ?_
       simp[ht,u0]
       refine gives_put hE h (by decide) (by omega) fun _ h => ?_
       simp[ht,u0]
       exact k _ (h.more (by omega))
   · simp[ht,u0,u4,o1,hp]
     obtain⟨r,H2,e1,r1,r3,h⟩:=callee_ok hE hN hl h hp0 hp3
     obtain⟨s,hs,e2⟩:=itoa_ok hE r (by omega) (by omega) H2
     have f1:=fun a b=>bin_cat2 a b ⟨#[112]⟩ s (by rw[c1];omega)
     have f2:=fun a b=>bin_cat2 a b (⟨#[112]⟩++s) ⟨#[40]⟩ (by rw[ByteArray.size_append,c1,c2];omega)
     simp[ht,u0,e1,e2,f1,f2]
     refine gives_put hE h (s:=⟨#[112]⟩++s ++ ⟨#[40]⟩) (by simp only[ByteArray.size_append,c1,c2];omega) (by omega) fun _ h => ?_
     simp[ht,u0]
     refine gives_expr hE hN hl 1 (by omega) h hin rfl (by omega) fun _ h => ?_
     simp[ht,u0]
     refine gives_put hE h (by decide) (by omega) fun _ h => ?_
     simp[ht,u0]
     exact k _ (h.more (by omega))
 · simp[ht,u0,u4]
   refine gives_put hE h (by decide) (by omega) fun _ h => ?_
   simp[ht,u0]
   exact k _ (h.more (by omega))
 · simp[ht,u0,u4]
   refine gives_put hE h (by decide) (by omega) fun _ h => ?_
   simp[ht,u0]
   exact k _ (h.more (by omega))
 · simp[ht,u0,u4]
   refine gives_put hE h (by decide) (by omega) fun _ h => ?_
   simp[ht,u0]
   refine gives_items hE hN hl h (by omega) fun _ h => ?_
   simp[ht,u0]
   exact k _ (h.more (by omega))
 · simp[ht,u0,u4]
   refine gives_put hE h (by decide) (by omega) fun _ h => ?_
   simp[ht,u0]
   refine gives_items hE hN hl h (by omega) fun _ h => ?_
   simp[ht,u0]
   exact k _ (h.more (by omega))
 · simp[ht,u0,u4]
   refine gives_put hE h (by decide) (by omega) fun _ h => ?_
   simp[ht,u0]
   refine gives_items hE hN hl h (by omega) fun _ h => ?_
   simp[ht,u0]
   exact k _ (h.more (by omega))
 · simp[ht,u0,u4]
   refine gives_put hE h (by decide) (by omega) fun _ h => ?_
   simp[ht,u0]
   refine gives_next hE hN hl h (by omega) (by omega) fun r _ r1 r2 h => ?_
   simp[ht,u0]
   refine gives_idx2 (by decide) (by decide) (by omega) (by omega) fun s hs => ?_
   simp[ht,u0]
   refine gives_put hE h hs (by omega) fun _ h => ?_
   simp[ht,u0]
   exact k _ (h.more (by omega))
 · simp[ht,u0,u4]
   refine gives_put hE h (by decide) (by omega) fun _ h => ?_
   simp[ht,u0]
   refine gives_expr hE hN hl 2 (by omega) h hin rfl (by omega) fun _ h => ?_
   simp[ht,u0]
   exact k _ (h.more (by omega))
 · simp[ht,u0,u4]
   refine gives_put hE h (by decide) (by omega) fun _ h => ?_
   simp[ht,u0]
   refine gives_expr hE hN hl 2 (by omega) h hin rfl (by omega) fun _ h => ?_
   simp[ht,u0]
   exact k _ (h.more (by omega))
 · obtain⟨e,rfl⟩:∃ e,d=e+1:=⟨d - 1,by have:=hk (by omega);omega⟩
   change hi+(2 * (3 * (bT e+40)+40)+3 * bF+bC 1+bE 2+2000)≤800000000 at hb
   change ∀ H',MKx H0 H' mid nv N lo (hi+(2 * (3 * (bT e+40)+40)+3 * bF+bC 1+bE 2+2000)) p inn→Q (.val (.tuple #[])) H' at k
   have hbS:bS e=3 * (bT e+40)+40:=rfl
   have w1:IntKind.i64.wrap (e:Int)=e:=wrap64 _ (by omega) (by omega)
   simp only[Int.natCast_add,Int.natCast_one,Int.natCast_succ]at u1
   simp[ht,u0,u1,u4]
   refine region_of hE hN hl (by omega) (hrec e rfl) h hin (by omega) fun _ h => ?_
   simp[ht,u0]
   exact k _ (h.more (by omega))
 · obtain⟨e,rfl⟩:∃ e,d=e+1:=⟨d - 1,by have:=hk (by omega);omega⟩
   change hi+(2 * (3 * (bT e+40)+40)+3 * bF+bC 1+bE 2+2000)≤800000000 at hb
   change ∀ H',MKx H0 H' mid nv N lo (hi+(2 * (3 * (bT e+40)+40)+3 * bF+bC 1+bE 2+2000)) p inn→Q (.val (.tuple #[])) H' at k
   have hbS:bS e=3 * (bT e+40)+40:=rfl
   have w1:IntKind.i64.wrap (e:Int)=e:=wrap64 _ (by omega) (by omega)
   simp only[Int.natCast_add,Int.natCast_one,Int.natCast_succ]at u1
   simp[ht,u0,u1,u4]
   refine region_of hE hN hl (by omega) (hrec e rfl) h hin (by omega) fun _ h => ?_
   simp[ht,u0]
   exact k _ (h.more (by omega))
 · obtain⟨a,left,b,n,o1⟩:=h.row
   by_cases hp:p=3
   · rcases hin with rfl | rfl | rfl
     all_goals
      simp[ht,u0,u4,o1,hp]
      refine gives_put hE h (by decide) (by omega) fun _ h => ?_
      simp[ht,u0]
      exact k _ (h.more (by omega))
   · rcases hin with rfl | rfl | rfl
     · simp[ht,u0,u4,o1,hp]
       refine gives_fork hE hN hl h (by unfold InOK;simp) hp0 hp3 (by omega) fun _ h => ?_
       simp
       exact k _ (h.more (by omega))
     · simp[ht,u0,u4,o1,hp]
       refine gives_put hE h (by decide) (by omega) fun _ h => ?_
       simp[ht,u0]
       exact k _ (h.more (by omega))
     · simp[ht,u0,u4,o1,hp]
       refine gives_put hE h (by decide) (by omega) fun _ h => ?_
       simp[ht,u0]
       exact k _ (h.more (by omega))
 · obtain⟨a,left,b,n,o1⟩:=h.row
   by_cases hp:p=3
   · rcases hin with rfl | rfl | rfl
     all_goals
      simp[ht,u0,u4,o1,hp]
      refine gives_put hE h (by decide) (by omega) fun _ h => ?_
      simp[ht,u0]
      exact k _ (h.more (by omega))
   · rcases hin with rfl | rfl | rfl
     · simp[ht,u0,u4,o1,hp]
       refine gives_fork hE hN hl h (by unfold InOK;simp) hp0 hp3 (by omega) fun _ h => ?_
       simp
       exact k _ (h.more (by omega))
     · simp[ht,u0,u4,o1,hp]
       refine gives_put hE h (by decide) (by omega) fun _ h => ?_
       simp[ht,u0]
       exact k _ (h.more (by omega))
     · simp[ht,u0,u4,o1,hp]
       refine gives_put hE h (by decide) (by omega) fun _ h => ?_
       simp[ht,u0]
       exact k _ (h.more (by omega))
 · obtain⟨e,rfl⟩:∃ e,d=e+1:=⟨d - 1,by have:=hk (by omega);omega⟩
   change hi+(2 * (3 * (bT e+40)+40)+3 * bF+bC 1+bE 2+2000)≤800000000 at hb
   change ∀ H',MKx H0 H' mid nv N lo (hi+(2 * (3 * (bT e+40)+40)+3 * bF+bC 1+bE 2+2000)) p inn→Q (.val (.tuple #[])) H' at k
   have hbS:bS e=3 * (bT e+40)+40:=rfl
   have w1:IntKind.i64.wrap (e:Int)=e:=wrap64 _ (by omega) (by omega)
   simp only[Int.natCast_add,Int.natCast_one,Int.natCast_succ]at u1
   simp[ht,u0,u4]
   refine gives_put hE h (by decide) (by omega) fun _ h => ?_
   simp[ht,u0]
   refine gives_items hE hN hl h (by omega) fun _ h => ?_
   simp[ht,u0]
   refine gives_put hE h (by decide) (by omega) fun _ h => ?_
   simp[ht,u0,u1,w1]
   refine hrec e rfl h hin (by omega) fun _ h => ?_
   simp[ht,u0]
   refine gives_put hE h (by decide) (by omega) fun _ h => ?_
   simp[ht,u0]
   exact k _ (h.more (by omega))
 · obtain⟨a,left,b,n,o1⟩:=h.row
   by_cases hp:p=3
   · simp[ht,u0,u4,o1,hp]
     refine gives_next hE hN hl h (by omega) (by omega) fun r _ r1 r2 h => ?_
     by_cases hr:0<r
     · simp[ht,u0,hr]
       refine gives_put hE h (by decide) (by omega) fun _ h => ?_
       simp[ht,u0]
       exact k _ (h.more (by omega))
     · simp[ht,u0,hr]
       obtain⟨r,H2,e1,r1,r3,h⟩:=callee_ok hE hN hl h hp0 hp3
       obtain⟨s,hs,e2⟩:=itoa_ok hE r (by omega) (by omega) H2
       have f1:=fun a b=>bin_cat2 a b ⟨#[112]⟩ s (by rw[c1];omega)
       have f2:=fun a b=>bin_cat2 a b (⟨#[112]⟩++s) ⟨#[40]⟩ (by rw[ByteArray.size_append,c1,c2];omega)
       simp[ht,u0,e1,e2,f1,f2]
       refine gives_put hE h (s:=⟨#[112]⟩++s ++ ⟨#[40]⟩) (by simp only[ByteArray.size_append,c1,c2];omega) (by omega) fun _ h => ?_
       simp[ht,u0]
       refine gives_expr hE hN hl 1 (by omega) h hin rfl (by omega) fun _ h => ?_
       simp[ht,u0]
       refine gives_put hE h (by decide) (by omega) fun _ h => ?_
       simp[ht,u0]
       exact k _ (h.more (by omega))
   · simp[ht,u0,u4,o1,hp]
     obtain⟨r,H2,e1,r1,r3,h⟩:=callee_ok hE hN hl h hp0 hp3
     obtain⟨s,hs,e2⟩:=itoa_ok hE r (by omega) (by omega) H2
     have f1:=fun a b=>bin_cat2 a b ⟨#[112]⟩ s (by rw[c1];omega)
     have f2:=fun a b=>bin_cat2 a b (⟨#[112]⟩++s) ⟨#[40]⟩ (by rw[ByteArray.size_append,c1,c2];omega)
     simp[ht,u0,e1,e2,f1,f2]
     refine gives_put hE h (s:=⟨#[112]⟩++s ++ ⟨#[40]⟩) (by simp only[ByteArray.size_append,c1,c2];omega) (by omega) fun _ h => ?_
     simp[ht,u0]
     refine gives_expr hE hN hl 1 (by omega) h hin rfl (by omega) fun _ h => ?_
     simp[ht,u0]
     refine gives_put hE h (by decide) (by omega) fun _ h => ?_
     simp[ht,u0]
     exact k _ (h.more (by omega))
end
end Go.Vm.Make
