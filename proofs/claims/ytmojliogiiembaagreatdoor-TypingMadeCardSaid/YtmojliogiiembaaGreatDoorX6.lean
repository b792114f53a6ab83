/- What is proved: what the reference's table tells of locals and regions, its cells and lists. What is proved: 'Parse', of any source that is no longer than may be. What is proved: the readers of bytes, expressions, statements and sources answer, given steps enough. What is defined and proved: how whatever was read without a fault is made: which parts each kind of thing has. What is defined and proved: how much there is in what is read, and that it is no more than the tokens that were read; how a source is made that was read without a fault. What is proved: the table and the reference's table agree, of any source: plain words, without program or heap. What is defined and proved: what may stand where, in plain words: the first fault of statements, of any table. What is proved: structs of whole numbers and strings, compared. What is proved: 'signalboxlaw26.same', of tables that agree. What is proved: the checker's small functions ('fail', 'means', 'must'). What is proved: the checker's 'variable'. What is proved: the checker's 'expr' and 'want'. What is proved: the checker's 'call'. What is proved: the reference's checker: its small functions ('bad', 'fault', 'variable', 'global'). What is proved: the reference's checker of expressions: 'expr' and 'want'. What is proved: the reference's checker of items and calls. What is proved: the checker's 'items'. What is proved: the checker's 'branches'. What is proved: the reference's checker of statements, but for regions: 'stmts'; what is to be shown of 'stmt'. What is proved: the checker's 'stmts', and 'stmt' but for regions. What is proved: the checker's 'stmt', if 'region' is as it should be. -/
import Derived.Test.YtmojliogiiembaaGreatDoorX5
set_option maxRecDepth 100000
set_option maxHeartbeats 4000000
set_option linter.unusedSimpArgs false
set_option linter.unusedVariables false
set_option linter.unusedSectionVars false
namespace Go.Vm.Scope
open Go Go.Proofs Go.Vm.Parse
attribute [local simp] repCells_succ writeAt rd_Fr toList_beq gpe gpn spe gse gsn ne_r0 ne_l0 le_s0 ne_r1 ne_l1 lt_s1 le_s1 ne_r2 ne_l2 lt_s2 le_s2 ne_r3 ne_l3 lt_s3 le_s3 ne_r4 ne_l4 lt_s4 le_s4 ne_r5 ne_l5 lt_s5 le_s5 ne_r6 ne_l6 lt_s6 le_s6 ne_r7 ne_l7 lt_s7 le_s7
def rlocalsAt (R:RT)(i:Int):List ByteArray:=if i<1 then []else (R.locals[(i - 1).toNat]?).getD []
def rheadAt (R:RT)(i:Int):Int:=if i<1 then 0 else (R.heads[(i - 1).toNat]?).getD 0
section
variable {E:Hooks} (hE:Plain E)
include hE
variable {H:Heap} {col:Nat→Nat} {tid:Nat} {v1 v2 v3 v4 v5 v6:Value} {R:RT} (h:RRef H col tid v1 v2 v3 v4 v5 v6 R) (hok:ROK R)
include h hok
theorem rlocal_run (i:Int)(x:ByteArray):(run Tryz.prog E).call 84 [.pointer (some ⟨tid,0,none⟩),.int .i64 i,.string x] H=some (.val (.tuple #[rIdx (idxF x 0 (rlocalsAt R i)) 0,.bool (idxF x 0 (rlocalsAt R i)).isSome]),H):=by
 suffices key:Gives ((run Tryz.prog E).call 84 [.pointer (some ⟨tid,0,none⟩),.int .i64 i,.string x] H) fun o H'=>o = .val (.tuple #[rIdx (idxF x 0 (rlocalsAt R i)) 0,.bool (idxF x 0 (rlocalsAt R i)).isSome])∧H'=H by
  obtain⟨o,H',e,rfl,rfl⟩:=key
  exact e
 have g0:=h.obj
 obtain⟨b5,rfl⟩:=repStrs.G_slice h.g5
 simp only[rt6]at g0
 rw[c_rLocal hE,callB,bodyOf]
 unfold rlocalsAt
 by_cases h0:i<1
 · simp[Tryz.f84,g0,h0,idxF,rIdx]
 · obtain⟨n,rfl⟩:∃ n:Nat,i=(n:Int)+1:=⟨(i - 1).toNat,by omega⟩
   rw[if_neg h0,show ((n:Int)+1 - 1).toNat=n by omega]
   have ll:=hok.l2
   have ln:=hok.n4
   by_cases h1:n<R.locals.length
   · have h1':¬(R.locals.length:Int)<(n:Int)+1:=by omega
     obtain⟨id,tl,cs,e1,_,_,hrow,hcl,hget,hle⟩:=repStrs.G_at h.g5 h1
     cases e1
     have l3:=hok.l3 R.locals[n] (List.getElem_mem h1)
     rw[List.getElem?_eq_getElem h1,Option.getD_some]
     generalize R.locals[n]=l at *
     obtain⟨w,hw,gw⟩:=hget
     simp only[repStrs,Nat.mul_one]at hw hcl hle hrow
     have hw3:cs[n]'(by omega)=w:=(List.getElem?_eq_some_iff.1 (getc hw)).2
     obtain⟨wb,rfl⟩:=repStr.G_slice gw
     have w1:IntKind.i64.wrap (n:Int)=(n:Int):=wrap64 _ (by omega) (by omega)
     simp[Tryz.f84,g0,h0,h1']
     refine loop_mid2 (fun t K'=>K'=H∧idxF x 0 l=none) (fun m t K'=>K'=H∧∃ k,k≤l.length∧m=l.length - k∧rd t 8 = .int .i64 k∧idxF x 0 l=idxF x k (l.drop k)) l.length ?_ ?_ ?_
     · exact⟨rfl,0,Nat.zero_le _,by simp,by simp,by simp⟩
     · rintro m t _ hk ⟨rfl,k,hkl,rfl,g8,hf⟩
       have ht:t.length=47:=hk.1.trans (by simp[len_Bs])
       have hh:=hk.all [0,1,2] (by decide +kernel)
       simp at hh
       obtain⟨u0,u1,u2⟩:=hh
       rcases Nat.lt_or_ge k l.length with hlt | hge
       · obtain⟨id2,tl2,cs2,e2,hrow2,hcl2,hk2,hc2⟩:=str_cell gw hlt
         cases e2
         rw[List.drop_eq_getElem_cons hlt,idxF]at hf
         generalize l[k]=y at *
         have w2:IntKind.i64.wrap ((k:Int)+1)=(k:Int)+1:=wrap64 _ (by omega) (by omega)
         by_cases hy:y=x
         · subst hy
           rw[if_pos rfl]at hf
           rw[hf]
           simp[ht,u0,u1,u2,g8,hlt,g0,w1,h1,hrow,hcl,hle,hw,hw3,hrow2,hcl2,hc2,rIdx]
         · rw[if_neg hy]at hf
           simp[ht,u0,u1,u2,g8,hlt,g0,w1,h1,hrow,hcl,hle,hw,hw3,hrow2,hcl2,hc2,hy,w2]
           exact⟨l.length - (k+1),by omega,k+1,by omega,rfl,by simp[ht],hf⟩
       · simp[ht,u0,u1,u2,g8,g0,w1,h1,hrow,hcl,hle,hw,hw3,show ¬k<l.length by omega]
         rw[hf,List.drop_eq_nil_of_le (by omega)]
         rfl
     · rintro t _ hk ⟨rfl,hf⟩
       have ht:t.length=47:=hk.1.trans (by simp[len_Bs])
       rw[hf]
       simp[ht,rIdx]
   · have h1':(R.locals.length:Int)<(n:Int)+1:=by omega
     rw[List.getElem?_eq_none (by omega)]
     simp[Tryz.f84,g0,h0,h1',idxF,rIdx]
theorem rhead_run (i:Int):(run Tryz.prog E).call 103 [.pointer (some ⟨tid,0,none⟩),.int .i64 i] H=some (.val (.int .i64 (rheadAt R i)),H):=by
 suffices key:Gives ((run Tryz.prog E).call 103 [.pointer (some ⟨tid,0,none⟩),.int .i64 i] H) fun o H'=>o = .val (.int .i64 (rheadAt R i))∧H'=H by
  obtain⟨o,H',e,rfl,rfl⟩:=key
  exact e
 have g0:=h.obj
 obtain⟨b4,rfl⟩:=repInt.G_slice h.g4
 simp only[rt6]at g0
 rw[c_rParams hE,callB,bodyOf]
 unfold rheadAt
 by_cases h0:i<1
 · simp[Tryz.f103,g0,h0]
 · obtain⟨n,rfl⟩:∃ n:Nat,i=(n:Int)+1:=⟨(i - 1).toNat,by omega⟩
   rw[if_neg h0,show ((n:Int)+1 - 1).toNat=n by omega]
   have ll:=hok.l2
   have ln:=hok.n3
   by_cases h1:n<R.heads.length
   · have h1':¬(R.heads.length:Int)<(n:Int)+1:=by omega
     obtain⟨id,tl,cs,e1,hrow,hcl,hk1,hc1⟩:=int_cell h.g4 h1
     cases e1
     rw[List.getElem?_eq_getElem h1,Option.getD_some]
     generalize R.heads[n]=l at *
     have w1:IntKind.i64.wrap (n:Int)=(n:Int):=wrap64 _ (by omega) (by omega)
     simp[Tryz.f103,g0,h0,h1,h1',w1,hrow,hcl,hc1]
   · have h1':(R.heads.length:Int)<(n:Int)+1:=by omega
     rw[List.getElem?_eq_none (by omega)]
     simp[Tryz.f103,g0,h0,h1']
end
end Go.Vm.Scope
namespace Go.Vm.Parse
open Go Go.Proofs
attribute [local simp] repCells_succ writeAt rd_Fr toList_beq gpe gpn spe gse gsn ne_r0 ne_l0 le_s0 ne_r1 ne_l1 lt_s1 le_s1 ne_r2 ne_l2 lt_s2 le_s2 ne_r3 ne_l3 lt_s3 le_s3 ne_r4 ne_l4 lt_s4 le_s4 ne_r5 ne_l5 lt_s5 le_s5 ne_r6 ne_l6 lt_s6 le_s6 ne_r7 ne_l7 lt_s7 le_s7
structure PT (H:Heap)(r sid:Nat)(t:List Value):Prop where
 len:t.length=72
 t2:rd t 2 = .pointer (some ⟨H.n,0,none⟩)
 t3:rd t 3 = .pointer (some ⟨H.n+1,0,none⟩)
 t6:rd t 6 = .pointer (some ⟨r,0,none⟩)
 t7:rd t 7 = .pointer (some ⟨sid,0,none⟩)
theorem PT.of {H:Heap}{r sid:Nat}{t t':List Value}(p:PT H r sid t)(hl:t'.length=t.length)(h:AllRd t' t [2,3,6,7]):PT H r sid t':=by
 simp at h
 exact⟨hl.trans p.len,h.1.trans p.t2,h.2.1.trans p.t3,h.2.2.1.trans p.t6,h.2.2.2.trans p.t7⟩
def ProcsI (B:BrP)(H Hp:Heap)(r lid:Nat)(L:List Tk)(sid:Nat)(name:ByteArray)(ds:List Dcl)(v:Value)(bd:Nat)(res:List Prc)(s':PS)(n N m:Nat)(t:List Value)(K:Heap):Prop :=
 m≤n∧∃ acc s w,procsL B L m acc s=some (res,s')∧Loc Hp r lid L sid s (sr5 name v w nl nl) K∧repDcl.G K (fun i=>sid<i∧i<bd) v ds∧repPrc.G K (fun i=>bd≤i) w acc∧acc.length≤s.p∧bd≤K.n
def ProcsJ (H Hp:Heap)(r lid:Nat)(L:List Tk)(sid:Nat)(name:ByteArray)(ds:List Dcl)(ps:List Prc)(s':PS)(t:List Value)(K:Heap):Prop :=
 PT H r sid t∧∃ v w,Loc Hp r lid L sid s' (sr5 name v w nl nl) K∧repDcl.G K (fun i=>sid<i) v ds∧repPrc.G K (fun i=>sid<i) w ps
def ClaimsJ (H Hp:Heap)(r lid:Nat)(L:List Tk)(sid:Nat)(name:ByteArray)(ds:List Dcl)(ps:List Prc)(cs:List Itm)(s':PS)(t:List Value)(K:Heap):Prop :=
 PT H r sid t∧∃ v w x,Loc Hp r lid L sid s' (sr5 name v w x nl) K∧repDcl.G K (fun i=>sid<i) v ds∧repPrc.G K (fun i=>sid<i) w ps∧repItm.G K (fun i=>sid<i) x cs
def EndJ (H Hp:Heap)(r lid:Nat)(L:List Tk)(sid:Nat)(S:Src)(s':PS)(t:List Value)(K:Heap):Prop :=
 PT H r sid t∧∃ sc,Loc Hp r lid L sid s' sc K∧RSrc K (fun i=>sid<i) S sc
theorem RSrc.slices {H:Heap}{S:Nat→Prop}{p:Src}{cs:List Value}(h:RSrc H S p cs):∃ x a1 a2 a3 b1 b2 b3 c1 c2 c3 d1 d2 d3,cs=sr5 x (.slice a1 a2 a3) (.slice b1 b2 b3) (.slice c1 c2 c3) (.slice d1 d2 d3):=by
 obtain⟨v1,v2,v3,v4,rfl,h1,h2,h3,h4⟩:=h
 obtain⟨b1,rfl⟩:=repDcl.G_slice h1
 obtain⟨b2,rfl⟩:=repPrc.G_slice h2
 obtain⟨b3,rfl⟩:=repItm.G_slice h3
 obtain⟨b4,rfl⟩:=repStm.G_slice h4
 exact⟨_,_,_,_,_,_,_,_,_,_,_,_,_,rfl⟩
theorem RPrc.slices {H:Heap}{S:Nat→Prop}{p:Prc}{cs:List Value}(h:RPrc H S p cs):∃ a x a1 a2 a3 b1 b2 b3 c1 c2 c3,cs=pc5 a x (.slice a1 a2 a3) (.slice b1 b2 b3) (.slice c1 c2 c3):=by
 obtain⟨v1,v2,v3,rfl,h1,h2,h3⟩:=h
 obtain⟨b1,rfl⟩:=repIdn.G_slice h1
 obtain⟨b2,rfl⟩:=repIdn.G_slice h2
 obtain⟨b3,rfl⟩:=repStm.G_slice h3
 exact⟨_,_,_,_,_,_,_,_,_,_,_,rfl⟩
section
variable {E:Hooks} (hE:Plain E) {B:BrP}
include hE
def AllOK (E:Hooks)(H:Heap)(v:Value)(src:List UInt8):Prop:=∀ q,lexFrom src (src.length+1) 0 []=some q→∀ X,Same (fun _=>False) H X→Gives ((run Tryz.prog E).call 33 [v] X) (RetL X q)
theorem AllOK.bs {H:Heap}{sid off cap:Nat}{src:List UInt8}(hb:BS H sid off cap src)(hsm:src.length≤4096):AllOK E H (.slice (some ⟨sid,off,none⟩) src.length cap) src :=
 fun q hq X k=>all_walk hE (hb.same k (fun h=>h)) hsm hq
theorem AllOK.nil (H:Heap):AllOK E H (.slice none 0 0) []:=by
 intro q hq X kX
 simp[lexFrom]at hq
 subst hq
 rw[c_All hE,callB,bodyOf]
 simp[Tryz.f33]
 refine loop_wp (fun m t K=>rd t 5 = .int .i64 0∧rd t 4 = .slice (some ⟨X.n+1,0,none⟩) 0 0∧K=(X.push (.row true 0 1 [.int .i64 0,.int .i64 0])).push (.row true 0 4 [])) 0 ?_ ?_
 · exact⟨by simp,by simp,rfl⟩
 rintro m t K hk ⟨g5,g4,rfl⟩
 have ht:t.length=193:=hk.1.trans (by simp[len_Bs])
 have hh:=hk.all [0,3] (by decide +kernel)
 simp at hh
 obtain⟨t0,t3⟩:=hh
 obtain⟨H2,e1,e2,e3,e4⟩:=app_one tf_tok (H:=((X.push (.row true 0 1 [.int .i64 0,.int .i64 0])).push (.row true 0 4 [])).push (.row true 0 4 [.int .i64 5,.int .i64 0,.int .i64 0,.string ByteArray.empty])) (id:=X.n+1) (tl:=0) (n:=0) (xid:=X.n+1+1) (cs:=[]) (c:=[.int .i64 5,.int .i64 0,.int .i64 0,.string ByteArray.empty]) (xt:=0) (xe:=4) (xo:=true) (xc:=1)
  (by rw[Heap.get_push,if_neg (by simp)];exact Heap.get_push_self _ _) rfl (by omega) rfl (by exact Heap.get_push_self _ _) (by omega)
 simp only[Heap.n_push]at e1 e2 e3
 have g1:H2.get X.n = .row true 0 1 [.int .i64 0,.int .i64 0]:=e4.at (by rw[Heap.get_push,if_neg (by simp),Heap.get_push,if_neg (by simp),Heap.get_push_self]) (by simp) (by omega)
 have kp:Same (fun _=>False) X (((X.push (.row true 0 1 [.int .i64 0,.int .i64 0])).push (.row true 0 4 [])).push (.row true 0 4 [.int .i64 5,.int .i64 0,.int .i64 0,.string ByteArray.empty])):=((Same.push _ _ _).then_push _).then_push _
 simp[ht,g5,g4,t0,t3,e1,g1,show X.n<H2.n by omega]
 refine⟨(kp.then e4 (fun i hi => .inr (by omega))).then_set (by omega) (.inr (Nat.le_refl _)) _,X.n+1+1+1,by omega,rfl,1,by omega,?_⟩
 rw[Heap.get_set _ _ _ (by omega),if_neg (by omega)]
 exact e2
theorem parse_walk0 (hB:∀ L,BLt B L)(hBr:∀ r lid L,BranOK E B r lid L){H:Heap}{v:Value}{src:List UInt8}(hv:isTuple v=false)(hall:AllOK E H v src)(hsm:src.length≤4096){n:Nat}{res:Src ⊕ (Int × Int)}(hx:parseP B src n=some res) :
  Gives ((run Tryz.prog E).call 15 [v] H) (RetP H res):=by
 unfold parseP at hx
 simp only[Option.bind_eq_some_iff]at hx
 obtain⟨q,hlex,hx⟩:=hx
 obtain⟨o,HA,eA,kA,hq⟩:=hall q hlex ((H.push (.row true 0 1 (sr5 ByteArray.empty nl nl nl nl))).push (.row true 0 1 [.int .i64 0,.int .i64 0])) ((Same.push _ _ _).then_push _)
 have nA:=kA.n
 simp at nA
 have gA0:HA.get H.n = .row true 0 1 (sr5 ByteArray.empty nl nl nl nl):=kA.at (by rw[Heap.get_push,if_neg (by simp),Heap.get_push_self]) (by simp) (fun h=>h)
 have gA1:HA.get (H.n+1) = .row true 0 1 [.int .i64 0,.int .i64 0]:=kA.at (Heap.get_push_self _ _) (by simp) (fun h=>h)
 have kH:Same (fun _=>False) H HA:=((Same.push _ _ _).then_push _).trans kA
 have tA0:H.n<HA.n:=by omega
 have tA1:H.n+1<HA.n:=by omega
 rw[c_Parse hE,callB,bodyOf]
 simp only[sr5,nl]at gA0 eA
 match q,hlex,hx,hq with
 | .inr (c, p), hlex, hx, hq =>
  cases hx
  simp only at hq
  subst hq
  have hc:=lexFrom_bad hlex
  simp[Tryz.f15,eA,hc]
  refine region_plan (by exact pl_parse0) ?_
  simp[gA0,gA1,tA0,tA1]
  refine⟨(kH.then_push _).then_set (by simp;omega) (.inr (by omega)) _ |>.then_set (by simp;omega) (.inr (by omega)) _,?_⟩
  simp[sr5]
 | .inl L, hlex, hx, hq =>
  obtain⟨id,hid,rfl,tl,htl,hrow⟩:=hq
  have hLl:=lexFrom_len hlex
  simp at hLl
  simp only[srcP,Option.bind_eq_some_iff,Option.map_eq_some_iff]at hx
  obtain⟨⟨ds,s1⟩,hx1,⟨ps,s2⟩,hx2,⟨cl,s3⟩,hx3,⟨bd,s4⟩,hx4,hx5⟩:=hx
  have hrd:RD ((HA.push (.row true 0 1 [.int .i64 0,.int .i64 0])).push (.row true 0 1 [.slice (some ⟨id,0,none⟩) L.length L.length,.int .i64 0,.int .i64 0,.int .i64 0])) (HA.n+1) id L ⟨0,0,0⟩:=by
   have hidn:=Heap.lt_of_get hrow (by simp)
   exact⟨Heap.get_push_self _ _,⟨tl,by rw[Heap.get_push,if_neg (by simp;omega),Heap.get_push,if_neg (by omega)];exact hrow⟩,by omega,Nat.zero_le _⟩
  have hidn:=Heap.lt_of_get hrow (by simp)
  generalize hHp:(HA.push (.row true 0 1 [.int .i64 0,.int .i64 0])).push (.row true 0 1 [.slice (some ⟨id,0,none⟩) L.length L.length,.int .i64 0,.int .i64 0,.int .i64 0])=Hp at *
  have nHp:Hp.n=HA.n+2:=by rw[← hHp];rfl
  have kHp:Same (fun _=>False) H Hp:=by rw[← hHp];exact (kH.then_push _).then_push _
  have gp0:Hp.get H.n = .row true 0 1 [.string ByteArray.empty,.slice none 0 0,.slice none 0 0,.slice none 0 0,.slice none 0 0]:=by rw[← hHp,Heap.get_push,if_neg (by simp;omega),Heap.get_push,if_neg (by omega)];exact gA0
  have gp1:Hp.get (H.n+1) = .row true 0 1 [.int .i64 0,.int .i64 0]:=by rw[← hHp,Heap.get_push,if_neg (by simp;omega),Heap.get_push,if_neg (by omega)];exact gA1
  have aP:At Hp (HA.n+1) id L ⟨0,0,0⟩ Hp:=⟨Same.refl _ _,hrd⟩
  obtain⟨K1,e1,k1,d1⟩:=must_run hE aP.rd tProgram
  have a1:=aP.go k1 d1
  obtain⟨K2,e2,k2,d2⟩:=name_run hE a1.rd
  have a2:=a1.go k2 d2
  have n2:=a2.n
  generalize hnm:(nameP L (mustS L ⟨0,0,0⟩ tProgram)).name=nm at *
  have l2:Loc Hp (HA.n+1) id L K2.n (nameS L (mustS L ⟨0,0,0⟩ tProgram)) (sr5 nm nl nl nl nl) (K2.push (.row true 0 1 (sr5 nm nl nl nl nl))) :=
   ⟨a2.push _,Heap.get_push_self _ _,by simp,n2,by omega,by omega⟩
  obtain⟨K3,e3,l3,k3⟩:=l2.must hE tSemi
  obtain⟨o4,K4,e4,v4,rfl,k4,d4,g4⟩:=decls_run hE hx1 l3.at_.rd
  have l4:=l3.step k4 d4
  obtain⟨b4,rfl⟩:=repDcl.G_slice g4
  have t3:=l3.lt
  have g4':repDcl.G K4 (fun i=>K2.n<i) (.slice b4 ds.length ds.length) ds:=repDcl.G_move (Same.refl (fun _=>False) _) (fun i hi _=>⟨by omega,fun h=>h⟩) g4
  have l5:=l4.put (sr5 nm (.slice b4 ds.length ds.length) nl nl nl)
  have g5:=l4.fld_put g4' (.row true 0 1 (sr5 nm (.slice b4 ds.length ds.length) nl nl nl))
  have gl4:=l4.get
  have tl4:=l4.lt
  have l5x:=l5
  simp only[Idn.cells,hnm]at e2
  simp only[tProgram,tSemi,sr5,nl]at e1 e2 e3 e4 gl4 l5x
  simp[Tryz.f15,eA,hHp,e1,e2,e3,e4,gl4,tl4]
  refine loop_mid (ProcsJ H Hp (HA.n+1) id L K2.n nm ds ps s2) (ProcsI B H Hp (HA.n+1) id L K2.n nm ds (.slice b4 ds.length ds.length) K4.n ps s2 n n) n ?_ ?_ ?_
  · exact⟨Nat.le_refl n,[],_,nl,hx2,l5,repDcl.G_move (Same.refl (fun _=>False) _) (fun i hi hlt=>⟨⟨hi,hlt⟩,fun h=>h⟩) g5,repPrc.G_nil _ _,by simp,Nat.le_refl _⟩
  · rintro m t K hk ⟨hmn,acc,s6,w,hxl,lF,gv,gF,hlen,hbd⟩
    have ht:t.length=72:=hk.1.trans (by simp[len_Bs])
    have hh:=hk.all [2,3,6,7] (by decide +kernel)
    simp at hh
    obtain⟨u2,u3,u6,u7⟩:=hh
    have ow:=lF.own
    have rl:=lF.rl
    cases m with
    | zero=>cases hxl
    | succ m =>
    rw[procsL]at hxl
    by_cases hi:isP L s6 tProcedure=true
    · rw[if_pos hi]at hxl
      simp only[Option.bind_eq_some_iff]at hxl
      obtain⟨⟨pr,s7⟩,hxa,hxb⟩:=hxl
      obtain⟨K5,e5,l5',k5⟩:=lF.take_yes hE hi
      obtain⟨oC,KC,eC,cs,rfl,kC,dC,rC⟩:=proc_run hE (st_all hE (hB L) (hBr _ _ _) m).2.1 hxa l5'.at_.rd
      have lC:=l5'.step kC dC
      have n5:=k5.n
      have nC:=kC.n
      have hlt:=procP_lt (hB L) hxa
      have gA:repPrc.G KC (fun i=>K4.n≤i) w acc:=repPrc.G_move (k5.trans kC) (fun i hi _=>⟨hi,by omega⟩) gF
      have gvA:repDcl.G KC (fun i=>K2.n<i∧i<K4.n) (.slice b4 ds.length ds.length) ds:=repDcl.G_move (k5.trans kC) (fun i hi _=>⟨hi,by omega⟩) gv
      obtain⟨b0,rfl⟩:=repPrc.G_slice gF
      have hpl:=lF.at_.rd.place
      have hwl:∀ i,vid (.slice b0 acc.length acc.length) i→i<K.n:=fun i hi=>(repPrc.G_lt gF hi).1
      have rC2:RPrc KC (fun i=>K5.n≤i) pr cs:=rC
      obtain⟨p1,p2,p3,p4,p5,p6,p7,p8,p9,p10,p11,rfl⟩:=rC2.slices
      obtain⟨b',KB,eB,lB,gB,tB,rB,kB⟩:=lC.grow2 repPrc tf_prc (bd:=K4.n) (by omega) (by omega) gA (by omega) (a:=pr) (c:=pc5 p1 p2 (.slice p3 p4 p5) (.slice p6 p7 p8) (.slice p9 p10 p11)) (repPrc.move (Same.refl (fun _=>False) _) (fun i hi _=>⟨⟨by omega,fun e=>by have:=hwl _ e;omega⟩,fun h=>h⟩) _ _ rC)
      have nB:=kB.n
      have gvB:repDcl.G KB (fun i=>K2.n<i∧i<K4.n) _ ds:=repDcl.G_move kB (fun i hi _=>⟨hi,by omega⟩) gvA
      have lD:=lB.put (sr5 nm (.slice b4 ds.length ds.length) (.slice b' (acc.length+1) (acc.length+1)) nl nl)
      have rD:=repPrc.G_set rB tB (S':=fun i=>K4.n≤i) (fun j hj=>⟨hj,by omega⟩) (.row true 0 1 (sr5 nm (.slice b4 ds.length ds.length) (.slice b' (acc.length+1) (acc.length+1)) nl nl))
      have rvD:=repDcl.G_set gvB tB (S':=fun i=>K2.n<i∧i<K4.n) (fun j hj=>⟨hj,by omega⟩) (.row true 0 1 (sr5 nm (.slice b4 ds.length ds.length) (.slice b' (acc.length+1) (acc.length+1)) nl nl))
      have g1:=l5'.get
      have g2:=lC.get
      have t2:=lC.lt
      simp only[repPrc,pc5,sr5,nl,tProcedure]at e5 eC eB g1 g2 gB
      simp[ht,u2,u3,u6,u7,e5]
      refine region_plan (by exact pl_parse1) ?_
      simp[ht,u2,u3,u6,u7,g1,g2,t2,eC,eB,gB,tB]
      refine⟨m,by omega,by omega,_,_,.slice b' (acc.length+1) (acc.length+1),hxb,lD,rvD,rD,?_,by simp;omega⟩
      have:=hlt.le.place
      simp[PS.on]at this ⊢
      omega
    · rw[if_neg hi]at hxl
      cases hxl
      have hi':isP L s2 tProcedure=false:=by simpa using hi
      obtain⟨K5,e5,l5',k5⟩:=lF.take_no hE hi'
      simp only[tProcedure]at e5
      simp[ht,u2,u3,u6,u7,e5]
      exact⟨⟨by simp[ht],by simp[ht,u2],by simp[ht,u3],by simp[ht,u6],by simp[ht,u7]⟩,_,w,l5',lF.fld (repDcl.G_move (Same.refl (fun _=>False) _) (fun i hi _=>⟨hi.1,fun h=>h⟩) gv) k5,lF.fld (repPrc.G_move (Same.refl (fun _=>False) _) (fun i hi _=>⟨by omega,fun h=>h⟩) gF) k5⟩
  · rintro t K hk ⟨⟨ht,u2,u3,u6,u7⟩,v,w,lF,gv,gw⟩
    obtain⟨bv,rfl⟩:=repDcl.G_slice gv
    obtain⟨bw,rfl⟩:=repPrc.G_slice gw
    obtain⟨K5,e5,k5,d5⟩:=take_run hE lF.at_.rd tClaims
    have l5':=lF.step k5 d5
    have gv5:=lF.fld gv k5
    have gw5:=lF.fld gw k5
    simp only[tClaims]at e5
    simp[ht,u2,u3,u6,u7,e5]
    unfold claimsP at hx3
    refine ends_cut (ClaimsJ H Hp (HA.n+1) id L K2.n nm ds ps cl s3) (ends_cond (fun hb => ?_) (fun hb => ?_)) ?_
    · have hi:isP L s2 tClaims=true:=hb
      rw[if_pos hi]at hx3
      simp only[Option.map_eq_some_iff]at hx3
      obtain⟨⟨it,s5⟩,hx31,hx32⟩:=hx3
      cases hx32
      rw[takeS_yes hi]at l5'
      obtain⟨K6,bi,im,e6,l6,i6,k6⟩:=l5'.items hE hx31
      have l7:=l6.put (sr5 nm (.slice bv ds.length ds.length) (.slice bw ps.length ps.length) (.slice bi im im) nl)
      obtain⟨K8,e8,l8,k8⟩:=l7.must hE tSemi
      have mv:∀ {α:Type} {ρ:Rep α} {v:Value} {q:List α},ρ.G K6 (fun i=>K2.n<i) v q→ρ.G K8 (fun i=>K2.n<i) v q:=fun g=>l7.fld (l6.fld_put g _) k8
      have f1:=mv (l5'.fld gv5 k6)
      have f2:=mv (l5'.fld gw5 k6)
      have f3:=mv i6
      have g6:=l6.get
      have t6:=l6.lt
      simp only[tSemi,sr5,nl]at g6 e8
      simp[ht,u2,u3,u6,u7,e6,g6,t6,e8]
      exact⟨⟨by simp[ht],by simp[ht,u2],by simp[ht,u3],by simp[ht,u6],by simp[ht,u7]⟩,_,_,_,l8,f1,f2,f3⟩
    · have hi:isP L s2 tClaims=false:=hb
      rw[if_neg (by simp[hi])]at hx3
      cases hx3
      rw[takeS_no hi]at l5'
      simp[ht,u2,u3,u6,u7]
      exact⟨⟨by simp[ht],by simp[ht,u2],by simp[ht,u3],by simp[ht,u6],by simp[ht,u7]⟩,_,_,nl,l5',gv5,gw5,repItm.G_nil _ _⟩
    · rintro t K ⟨⟨ht,u2,u3,u6,u7⟩,v,w,x,lF,gv,gw,gx⟩
      obtain⟨bv,rfl⟩:=repDcl.G_slice gv
      obtain⟨bw,rfl⟩:=repPrc.G_slice gw
      obtain⟨bx,rfl⟩:=repItm.G_slice gx
      obtain⟨K5,e5,l5',k5⟩:=lF.must hE tBegin
      obtain⟨o,K6,e6,y,rfl,k6,d6,g6⟩:=(st_all hE (hB L) (hBr _ _ _) n).2.1 _ _ _ _ hx4 (by omega) (by omega) _ l5'.at_.rd
      have l6:=l5'.step k6 d6
      obtain⟨bb,rfl⟩:=repStm.G_slice g6
      have t5:=l5'.lt
      have g6':repStm.G K6 (fun i=>K2.n<i) (.slice bb bd.length bd.length) bd:=repStm.G_move (Same.refl (fun _=>False) _) (fun i hi _=>⟨by omega,fun h=>h⟩) g6
      have l7:=l6.put (sr5 nm (.slice bv ds.length ds.length) (.slice bw ps.length ps.length) (.slice bx cl.length cl.length) (.slice bb bd.length bd.length))
      obtain⟨K8,e8,l8,k8⟩:=l7.must hE tEnd
      obtain⟨K9,e9,l9,k9⟩:=l8.must hE (b1 46)
      have mv:∀ {α:Type} {ρ:Rep α} {v:Value} {q:List α},ρ.G K6 (fun i=>K2.n<i) v q→ρ.G K9 (fun i=>K2.n<i) v q:=fun g=>l8.fld (l7.fld (l6.fld_put g _) k8) k9
      have hS:RSrc K9 (fun i=>K2.n<i) ⟨nm,ds,ps,cl,bd⟩ (sr5 nm (.slice bv ds.length ds.length) (.slice bw ps.length ps.length) (.slice bx cl.length cl.length) (.slice bb bd.length bd.length)) :=
       ⟨_,_,_,_,rfl,mv (l5'.fld (lF.fld gv k5) k6),mv (l5'.fld (lF.fld gw k5) k6),mv (l5'.fld (lF.fld gx k5) k6),mv g6'⟩
      obtain⟨KT,eT,kT⟩:=now_run hE l9.at_.rd
      have lT:=l9.step (Same.none kT) (l9.at_.rd.same kT)
      have hST:=hS.move (Same.none kT:Same (·=HA.n+1) K9 KT) (S':=fun i=>K2.n<i) (fun i hi _=>⟨hi,by omega⟩)
      have gl6:=l6.get
      have tl6:=l6.lt
      generalize hs9:mustS L (mustS L s4 tEnd) (b1 46)=s9 at *
      generalize htk:tok L s9.p=tk at *
      simp only[tBegin,tEnd,b1,sr5,nl,Tk.v,Tk.cells]at e5 e6 gl6 e8 e9 eT
      simp[ht,u2,u3,u6,u7,e5,e6,gl6,tl6,e8,e9,eT]
      refine ends_cut (EndJ H Hp (HA.n+1) id L K2.n ⟨nm,ds,ps,cl,bd⟩ (endS L s9)) (ends_cond (fun hb => ?_) (fun hb => ?_)) ?_
      · have hk5:¬tk.kind=5:=by simpa using hb
        have he:endS L s9=faultS L s9 14:=by unfold endS;rw[htk,if_neg hk5]
        rw[he]
        obtain⟨KF,eF,lF2,kF⟩:=lT.fault hE 14
        simp[ht,u2,u3,u6,u7,eF]
        exact⟨⟨by simp[ht],by simp[ht,u2],by simp[ht,u3],by simp[ht,u6],by simp[ht,u7]⟩,_,lF2,hST.move kF (fun i hi _=>⟨hi,by omega⟩)⟩
      · have hk5:tk.kind=5:=by simpa using hb
        have he:endS L s9=s9:=by unfold endS;rw[htk,if_pos hk5]
        rw[he]
        simp[ht,u2,u3,u6,u7]
        exact⟨⟨by simp[ht],by simp[ht,u2],by simp[ht,u3],by simp[ht,u6],by simp[ht,u7]⟩,_,lT,hST⟩
      · rintro t K ⟨⟨ht,u2,u3,u6,u7⟩,sc,lF,hS⟩
        have eb:=bad_run hE lF.at_.rd
        have hobj:=lF.at_.rd.obj
        have gk0:=lF.at_.same.at gp0 (by simp) (by omega)
        have gk1:=lF.at_.same.at gp1 (by simp) (by omega)
        have gl:=lF.get
        have tl:=lF.lt
        have kK:Same (fun _=>False) H K:=kHp.then lF.at_.same (fun i hi => .inr (by omega))
        have nK:=lF.at_.n
        have q0:H.n<K.n:=by omega
        have q1:H.n+1<K.n:=by omega
        simp only at hx5
        subst hx5
        by_cases hc:(endS L s9).c=0
        · simp only[hc,if_pos]
          obtain⟨y,a1,a2,a3,b1',b2,b3,c1,c2,c3,d1',d2',d3,rfl⟩:=hS.slices
          simp only[sr5]at gl hS
          simp[ht,u2,u3,u6,u7,eb,hc,gl,gk0,gk1,q0,q1]
          refine⟨(kK.then_set q0 (.inr (by omega)) _).then_set (by simp;omega) (.inr (by omega)) _,_,rfl,?_⟩
          refine RSrc.move (X:=fun i=>i=H.n∨i=H.n+1) ?_ (S:=fun i=>K2.n<i) (fun i hi _=>⟨by omega,by omega⟩) hS
          exact (Same.set (X:=fun i=>i=H.n∨i=H.n+1) K q0 (.inl rfl) _).trans (Same.set (X:=fun i=>i=H.n∨i=H.n+1) _ (by simpa using q1) (.inr rfl) _)
        · simp only[hc,if_neg]
          simp[ht,u2,u3,u6,u7,eb,hc]
          refine region_plan (by exact pl_parse2) ?_
          simp[ht,u2,u3,u6,u7,hobj,gk0,gk1,q0,q1,show ¬HA.n+1=H.n by omega,show ¬HA.n+1=H.n+1 by omega]
          refine⟨(kK.then_set q0 (.inr (by omega)) _).then_set (by simp;omega) (.inr (by omega)) _,?_⟩
          simp[sr5]
end
end Go.Vm.Parse
namespace Go.Vm.Parse
open Go Go.Proofs
theorem take_on {L:List Tk}{s:PS}{x:ByteArray}(h:isP L s x=true):(takeS L s x).p=s.p+1:=by unfold takeS;rw[if_pos h]
theorem argsL_tot (L:List Tk)(lv:Int):∀ M s acc again,L.length - s.p≤M→Tot fun n=>argsL L lv n acc again s:=by
 intro M
 induction M using Nat.strongRecOn with
 | _ M ih =>
 intro s acc again hM
 refine Tot.succ ?_ (fun n=>by rw[argsL])
 refine Tot.ite (fun _ => ?_) (fun _=>Tot.pure _)
 refine (row_ans L s lv).bind fun n q hq => ?_
 by_cases hi:isP L q.2 comma=true
 · have h1:=isP_lt hi
   have h2:=(x_le L _ _ _ _ _ hq).1.place
   exact ih (L.length - (takeS L q.2 comma).p) (by rw[take_on hi];omega) _ _ _ (Nat.le_refl _)
 · exact Tot.succ (Tot.pure _) (fun n=>by rw[argsL,if_neg (fun h=>hi h.1)])
theorem argsP_tot (L:List Tk)(lv:Int)(s:PS):Tot fun n=>argsP L n lv s:=by
 unfold argsP
 exact Tot.ite (fun _=>Tot.pure _) (fun _=>(argsL_tot L lv _ _ _ _ (Nat.le_refl _)).map _)
theorem itemsL_tot (L:List Tk):∀ M s acc again,L.length - s.p≤M→Tot fun n=>itemsL L n acc again s:=by
 intro M
 induction M using Nat.strongRecOn with
 | _ M ih =>
 intro s acc again hM
 refine Tot.succ ?_ (fun n=>by rw[itemsL])
 refine Tot.ite (fun _ => ?_) (fun _=>Tot.pure _)
 by_cases hi:isP L (numS L (nameS L s)) comma=true
 · have h1:=isP_lt hi
   have h2:=((nameS_le L s).1.le_trans (numS_le L _)).place
   exact ih (L.length - (takeS L (numS L (nameS L s)) comma).p) (by rw[take_on hi];omega) _ _ _ (Nat.le_refl _)
 · exact Tot.succ (Tot.pure _) (fun n=>by rw[itemsL,if_neg (fun h=>hi h.1)])
theorem items_ans (L:List Tk)(s:PS):Tot fun n=>itemsL L n [] true s:=itemsL_tot L _ _ _ _ (Nat.le_refl _)
theorem identsL_tot (L:List Tk):∀ M s acc again,L.length - s.p≤M→Tot fun n=>identsL L n acc again s:=by
 intro M
 induction M using Nat.strongRecOn with
 | _ M ih =>
 intro s acc again hM
 refine Tot.succ ?_ (fun n=>by rw[identsL])
 refine Tot.ite (fun _ => ?_) (fun _=>Tot.pure _)
 by_cases hi:isP L (nameS L s) comma=true
 · have h1:=isP_lt hi
   have h2:=(nameS_le L s).1.place
   exact ih (L.length - (takeS L (nameS L s) comma).p) (by rw[take_on hi];omega) _ _ _ (Nat.le_refl _)
 · exact Tot.succ (Tot.pure _) (fun n=>by rw[identsL,if_neg (fun h=>hi h.1)])
theorem varsL_tot (L:List Tk):∀ M s acc,L.length - s.p≤M→Tot fun n=>varsL L n acc s:=by
 intro M
 induction M using Nat.strongRecOn with
 | _ M ih =>
 intro s acc hM
 refine Tot.succ ?_ (fun n=>by rw[varsL])
 refine Tot.ite (fun hi => ?_) (fun _=>Tot.pure _)
 have h1:=isP_lt hi
 have h2:=((nameS_le L s.on).1.le_trans (mustS_le L _ tSemi)).place
 have h3:s.on.p=s.p+1:=rfl
 exact ih (L.length - (mustS L (nameS L s.on) tSemi).p) (by omega) _ _ (Nat.le_refl _)
theorem branP_tot (L:List Tk)(lv:Int)(s:PS):Tot fun n=>branP L n lv s:=by
 unfold branP
 refine (argsP_tot L lv _).bind fun n a ha => ?_
 exact Tot.ite (fun _=>(items_ans L _).map _) (fun _=>Tot.pure _)
def BTot (B:BrP)(L:List Tk):Prop:=∀ lv s,Tot fun n=>B L n lv s
theorem branL_tot {B:BrP}{L:List Tk}(hB:BLt B L)(hT:BTot B L)(lv:Int):∀ M s acc again,L.length - s.p≤M→Tot fun n=>branL B L lv n acc again s:=by
 intro M
 induction M using Nat.strongRecOn with
 | _ M ih =>
 intro s acc again hM
 refine Tot.succ ?_ (fun n=>by rw[branL])
 refine Tot.ite (fun _ => ?_) (fun _=>Tot.pure _)
 refine (hT lv s).bind fun n q hq => ?_
 by_cases hi:isP L q.2 tSlash=true
 · have h1:=isP_lt hi
   have h2:=(hB _ _ _ _ _ hq).le.place
   exact ih (L.length - (takeS L q.2 tSlash).p) (by rw[take_on hi];omega) _ _ _ (Nat.le_refl _)
 · exact Tot.succ (Tot.pure _) (fun n=>by rw[branL,if_neg (fun h=>hi h.1)])
theorem namedP_tot (L:List Tk)(lv:Int)(s:PS):Tot fun n=>namedP L n lv s:=by
 unfold namedP
 refine Tot.ite (fun _=>(argsP_tot L lv _).map _) (fun _ => ?_)
 refine Tot.ite (fun _ => ?_) (fun _=>(row_ans L _ lv).map _)
 exact (x_ans L _ (.index lv) trivial).bind fun n i _=>(row_ans L _ lv).map _
theorem st_tot {B:BrP}{L:List Tk}(hB:BLt B L)(hT:BTot B L):∀ M s,L.length - s.p≤M →
  (∀ lv,Tot fun n=>stmtP B L n lv s)∧(∀ lv acc again,Tot fun n=>stmtsL B L n lv acc again s)∧(∀ o lv,Tot fun n=>blockP B L n o lv s):=by
 intro M
 induction M using Nat.strongRecOn with
 | _ M ih =>
 intro s hM
 have ih':∀ s':PS,s.p<L.length→s.p<s'.p→(∀ lv,Tot fun n=>stmtP B L n lv s')∧(∀ lv acc again,Tot fun n=>stmtsL B L n lv acc again s')∧(∀ o lv,Tot fun n=>blockP B L n o lv s') :=
  fun s' h1 h2=>ih (L.length - s'.p) (by omega) s' (Nat.le_refl _)
 have hon:s.on.p=s.p+1:=rfl
 have tS:∀ lv,Tot fun n=>stmtP B L n lv s:=fun lv=>by
  refine Tot.succ ?_ (fun n=>by rw[stmtP])
  refine Tot.ite (fun _=>namedP_tot L lv s) (fun _ => ?_)
  refine Tot.ite (fun _=>Tot.pure _) (fun _ => ?_)
  refine Tot.ite (fun hi => ?_) (fun _ => ?_)
  · refine (row_ans L s.on lv).bind fun n x hx => ?_
    have h1:=(x_le L _ _ _ _ _ hx).1.place
    refine ((ih' x.2 (isP_lt hi) (by omega)).2.2 tThen lv).bind fun n b hb => ?_
    have h2:=((st_le hB n).2.2 _ _ _ _ _ hb).place
    exact Tot.ite (fun _=>((ih' b.2 (isP_lt hi) (by omega)).2.2 tElse lv).map _) (fun _=>Tot.pure _)
  refine Tot.ite (fun hi => ?_) (fun _ => ?_)
  · refine (row_ans L s.on lv).bind fun n x hx => ?_
    have h1:=(x_le L _ _ _ _ _ hx).1.place
    exact ((ih' x.2 (isP_lt hi) (by omega)).2.2 tDo lv).map _
  refine Tot.ite (fun hi=>(branL_tot hB hT lv _ _ _ _ (Nat.le_refl _)).map _) (fun _ => ?_)
  refine Tot.ite (fun hi=>Tot.pure _) (fun _ => ?_)
  refine Tot.ite (fun hi => ?_) (fun _ => ?_)
  · have h0:=(nameS_le L s.on).1.place
    refine Tot.ite (fun hw => ?_) (fun _ => ?_)
    · refine (row_ans L _ lv).bind fun n x hx => ?_
      have h1:=(x_le L _ _ _ _ _ hx).1.place
      have h3:(nameS L s.on).on.p=(nameS L s.on).p+1:=rfl
      exact ((ih' x.2 (isP_lt hi) (by omega)).2.2 tDo lv).map _
    · exact ((ih' (nameS L s.on) (isP_lt hi) (by omega)).2.2 tDo lv).map _
  refine Tot.ite (fun hi=>(items_ans L _).map _) (fun _ => ?_)
  refine Tot.ite (fun hi=>(items_ans L _).map _) (fun _ => ?_)
  refine Tot.ite (fun hi => ?_) (fun _ => ?_)
  · exact Tot.ite (fun hw=>(x_ans L _ (.index lv) trivial).map _) (fun _=>Tot.pure _)
  exact Tot.ite (fun hi=>(row_ans L _ lv).map _) (fun _=>Tot.pure _)
 have tL:∀ lv acc again,Tot fun n=>stmtsL B L n lv acc again s:=fun lv acc again=>by
  refine Tot.succ ?_ (fun n=>by rw[stmtsL])
  refine Tot.ite (fun _ => ?_) (fun _=>Tot.pure _)
  refine (tS lv).bind fun n q hq => ?_
  by_cases hi:isP L q.2 tSemi=true
  · have h1:=isP_lt hi
    have h2:=((st_le hB n).1 _ _ _ _ hq).le.place
    exact (ih' (takeS L q.2 tSemi) (by omega) (by rw[take_on hi];omega)).2.1 lv _ _
  · exact Tot.succ (Tot.pure _) (fun n=>by rw[stmtsL,if_neg (fun h=>hi h.1)])
 refine⟨tS,tL,fun o lv => ?_⟩
 refine Tot.succ ?_ (fun n=>by rw[blockP])
 refine Tot.ite (fun _=>Tot.pure _) (fun hi => ?_)
 refine Tot.ite (fun _=>Tot.pure _) (fun _ => ?_)
 exact (ih' _ (isP_lt (x:=o) (by simpa using hi)) (by show s.p<(opensS L s (lv+1)).p+1;rw[opensS_p];omega)).2.1 _ _ _
theorem stmts_ans {B:BrP}{L:List Tk}(hB:BLt B L)(hT:BTot B L)(lv:Int)(s:PS):Tot fun n=>stmtsL B L n lv [] true s:=(st_tot hB hT _ s (Nat.le_refl _)).2.1 lv [] true
theorem kindP_lt {L:List Tk}{s:PS}(h:kindP L s≠0):s.p<L.length:=by
 unfold kindP at h
 split at h
 · rename_i hi;exact isP_lt hi
 · split at h
   · rename_i hi;exact isP_lt hi
   · split at h
     · rename_i hi;exact isP_lt hi
     · split at h
       · rename_i hi;exact isP_lt hi
       · exact absurd rfl h
theorem declsL_tot (L:List Tk):∀ M s acc,L.length - s.p≤M→Tot fun n=>declsL L n acc s:=by
 intro M
 induction M using Nat.strongRecOn with
 | _ M ih =>
 intro s acc hM
 refine Tot.succ ?_ (fun n=>by rw[declsL])
 refine Tot.ite (fun _ => ?_) (fun _=>Tot.pure _)
 refine Tot.ite (fun _=>Tot.pure _) (fun hk => ?_)
 have h1:=kindP_lt hk
 have h2:=(dclS_lt L (kindP L s) s.on).place
 have h3:s.on.p=s.p+1:=rfl
 exact ih (L.length - (dclS L (kindP L s) s.on).p) (by omega) _ _ (Nat.le_refl _)
theorem procP_tot {B:BrP}{L:List Tk}(hB:BLt B L)(hT:BTot B L)(s:PS):Tot fun n=>procP B L n s:=by
 unfold procP
 refine Tot.bind ?_ fun n a _ => ?_
 · unfold paramsP
   exact Tot.ite (fun _=>Tot.pure _) (fun _=>identsL_tot L _ _ _ _ (Nat.le_refl _))
 refine (varsL_tot L _ _ _ (Nat.le_refl _)).bind fun n b _ => ?_
 exact (stmts_ans hB hT 1 _).map _
theorem procsL_tot {B:BrP}{L:List Tk}(hB:BLt B L)(hT:BTot B L):∀ M s acc,L.length - s.p≤M→Tot fun n=>procsL B L n acc s:=by
 intro M
 induction M using Nat.strongRecOn with
 | _ M ih =>
 intro s acc hM
 refine Tot.succ ?_ (fun n=>by rw[procsL])
 refine Tot.ite (fun hi => ?_) (fun _=>Tot.pure _)
 refine (procP_tot hB hT s.on).bind fun n q hq => ?_
 have h1:=isP_lt hi
 have h2:=(procP_lt hB (show procP B L n s.on=some (q.1,q.2)from hq)).le.place
 have h3:s.on.p=s.p+1:=rfl
 exact ih (L.length - q.2.p) (by omega) _ _ (Nat.le_refl _)
theorem srcP_tot {B:BrP}{L:List Tk}(hB:BLt B L)(hT:BTot B L):Tot fun n=>srcP B L n:=by
 unfold srcP
 refine (declsL_tot L _ _ _ (Nat.le_refl _)).bind fun n d _ => ?_
 refine (procsL_tot hB hT _ _ _ (Nat.le_refl _)).bind fun n p _ => ?_
 refine Tot.bind ?_ fun n c _=>(stmts_ans hB hT 1 _).map _
 unfold claimsP
 exact Tot.ite (fun _=>(items_ans L _).map _) (fun _=>Tot.pure _)
theorem branP_BLt (L:List Tk):BLt branP L:=fun n lv s b s' h=>branP_lt h
theorem branP_BTot (L:List Tk):BTot branP L:=fun lv s=>branP_tot L lv s
theorem parse_ans (src:List UInt8):∃ n r,parseP branP src n=some r:=by
 obtain⟨q,hq⟩:=lex_ans src (src.length+1) 0 [] (Nat.zero_le _) (by omega)
 unfold parseP
 rw[hq]
 cases q with
 | inr f=>exact⟨0,_,rfl⟩
 | inl L=>obtain⟨n,r,h⟩:=(srcP_tot (branP_BLt L) (branP_BTot L)).some;exact⟨n,r,h⟩
def BinOp (o:Int):Prop:=(9≤o∧o≤13)∨(15≤o∧o≤22)
def most:Int:=9223372036854775807
def ExOK (kind num op:Int)(name:ByteArray)(n:Nat):Prop :=
 (kind=1∧n=0∧op=0∧name=ByteArray.empty)∨(kind=2∧n=0∧op=0∧(num=0∨num=1)∧name=ByteArray.empty)∨(kind=3∧n=0∧num=0∧op=0)∨(kind=4∧n=1∧num=0∧op=0) ∨
 (kind=5∧n=1∧num=0∧(op=23∨op=14)∧name=ByteArray.empty)∨(kind=6∧n=2∧num=0∧BinOp op∧name=ByteArray.empty)
mutual
def WFx:Ex→Prop
 | .mk kind at_ num op name sub=>ExOK kind num op name sub.length∧0≤num∧num≤most∧WFxs sub
def WFxs:List Ex→Prop
 | []=>True
 | e :: es=>WFx e∧WFxs es
end
theorem WFxs.mem:∀ {l:List Ex},WFxs l→∀ e∈l,WFx e
 | [],_,e,h=>by cases h
 | a :: l, h, e, he => by
  simp only[WFxs]at h
  rcases List.mem_cons.1 he with rfl | he
  · exact h.1
  · exact WFxs.mem h.2 e he
theorem WFxs.of:∀ {l:List Ex},(∀ e∈l,WFx e)→WFxs l
 | [],_=>by simp only[WFxs]
 | a :: l,h=>by simp only[WFxs];exact⟨h a (by simp),WFxs.of fun e he=>h e (by simp[he])⟩
theorem WFxs.snoc {l:List Ex}{e:Ex}(h:WFxs l)(he:WFx e):WFxs (l++[e]) :=
 WFxs.of fun x hx=>by
  rcases List.mem_append.1 hx with hx | hx
  · exact h.mem x hx
  · rw[List.mem_singleton.1 hx];exact he
theorem WFx.put {kind at_ num op:Int}{name:ByteArray}{sub:List Ex}(h:ExOK kind num op name sub.length)(h1:0≤num)(h2:num≤most)(h3:WFxs sub):WFx (.mk kind at_ num op name sub):=by
 simp only[WFx];exact⟨h,h1,h2,h3⟩
theorem WFxs.nil:WFxs []:=by simp only[WFxs]
theorem WFxs.one {e:Ex}(h:WFx e):WFxs [e]:=by simp only[WFxs];exact⟨h,trivial⟩
theorem WFxs.two {a b:Ex}(h:WFx a)(k:WFx b):WFxs [a,b]:=by simp only[WFxs];exact⟨h,k,trivial⟩
def NumsOK (L:List Tk):Prop:=∀ t∈L,0≤t.num∧t.num≤most
theorem NumsOK.tok {L:List Tk}(h:NumsOK L)(p:Nat):0≤(tok L p).num∧(tok L p).num≤most:=by
 unfold Parse.tok
 rw[List.getD_eq_getElem?_getD]
 cases e:L[p]? with
 | none=>exact⟨by decide,by decide⟩
 | some t=>exact h t (List.mem_of_getElem? e)
theorem numFrom_ok:∀ {l:List UInt8}{n m:Int},(∀ b∈l,digitB b=true)→0≤n→n≤most→numFrom l n=some m→0≤m∧m≤most
 | [],n,m,_,h0,h1,h=>by cases h;exact⟨h0,h1⟩
 | b :: bs, n, m, hd, h0, h1, h => by
  rw[numFrom]at h
  have hb:=hd b (by simp)
  unfold digitB at hb
  simp only[decide_eq_true_eq]at hb
  split at h
  · cases h
  · rename_i hn
    refine numFrom_ok (fun c hc=>hd c (by simp[hc])) (by omega) ?_ h
    unfold most
    omega
theorem span_digits (src:List UInt8)(p:UInt8→Bool){a:Nat}(ha:a<src.length)(h:p src[a]=true):∀ b∈(src.drop a).take (spanTo p src (a+1) - a),p b=true:=by
 intro b hb
 unfold spanTo at hb
 rw[List.drop_eq_getElem_cons ha,show a+1+((src.drop (a+1)).takeWhile p).length - a=((src.drop (a+1)).takeWhile p).length+1 by omega,List.take_succ_cons]at hb
 rcases List.mem_cons.1 hb with rfl | hb
 · exact h
 · have e:(src.drop (a+1)).take ((src.drop (a+1)).takeWhile p).length=(src.drop (a+1)).takeWhile p:=by
    generalize src.drop (a+1)=l
    induction l with
    | nil=>rfl
    | cons x l ih =>
     rw[List.takeWhile_cons]
     split
     · simp only[List.length_cons,List.take_succ_cons,ih]
     · rfl
   rw[e]at hb
   generalize src.drop (a+1)=l at hb
   induction l with
   | nil=>cases hb
   | cons x l ih =>
    rw[List.takeWhile_cons]at hb
    split at hb
    · rcases List.mem_cons.1 hb with rfl | hb
      · assumption
      · exact ih hb
    · cases hb
theorem lexStep_num {src:List UInt8}{a to:Nat}(ha:a<src.length){t:Tk}(h:lexStep src a src[a] = .more to (some t)):0≤t.num∧t.num≤most:=by
 have z:(0:Int)≤0∧(0:Int)≤most:=⟨by decide,by decide⟩
 unfold lexStep at h
 split at h
 · cases h
 split at h
 · split at h<;>cases h
 split at h
 · cases h;exact z
 split at h
 · split at h
   · cases h;exact z
   · split at h
     · cases h
     · cases h;exact z
 split at h
 · rename_i hd
   split at h
   · cases h
   · rename_i n hn
     cases h
     exact numFrom_ok (span_digits src digitB ha hd) (by decide) (by decide) hn
 split at h
 · cases h
 · cases h;exact z
theorem lexFrom_nums {src:List UInt8}:∀ {n a:Nat}{out l:List Tk},NumsOK out→lexFrom src n a out=some (.inl l)→NumsOK l
 | 0,_,_,_,_,h=>by cases h
 | n + 1, a, out, l, ho, h => by
  rw[lexFrom]at h
  split at h
  · rename_i ha
    split at h
    · cases h
    · exact lexFrom_nums ho h
    · rename_i to t ht
      refine lexFrom_nums (fun x hx => ?_) h
      rcases List.mem_append.1 hx with hx | hx
      · exact ho x hx
      · rw[List.mem_singleton.1 hx];exact lexStep_num ha ht
  · cases h
    intro x hx
    rcases List.mem_append.1 hx with hx | hx
    · exact ho x hx
    · rw[List.mem_singleton.1 hx];exact⟨Int.le_refl 0,by show (0:Int)≤most;decide⟩
theorem opFrom_ok (k:Int)(x:ByteArray):∀ l:List (ByteArray × Int × Int),(∀ q∈l,BinOp q.2.2)→opFrom k x l≠0→BinOp (opFrom k x l)
 | [],_,h=>absurd rfl h
 | (t, r, o) :: l, ho, h => by
  rw[opFrom]at h ⊢
  split
  · exact ho (t,r,o) (by simp)
  · rename_i hc
    rw[if_neg hc]at h
    exact opFrom_ok k x l (fun q hq=>ho q (by simp[hq])) h
theorem opsL_ok:∀ q∈opsL,BinOp q.2.2:=by
 have:opsL.all (fun q=>decide ((9≤q.2.2∧q.2.2≤13)∨(15≤q.2.2∧q.2.2≤22)))=true:=by decide +kernel
 intro q hq
 have h:=List.all_eq_true.1 this q hq
 simp only[decide_eq_true_eq]at h
 exact h
theorem opP_ok {L:List Tk}{s:PS}{k:Int}(h:opP L s k≠0):BinOp (opP L s k):=by
 unfold opP at h ⊢
 split
 · rename_i hc;rw[if_pos hc]at h;exact opFrom_ok _ _ _ opsL_ok h
 · rename_i hc;rw[if_neg hc]at h;exact absurd rfl h
variable {L:List Tk}
def XC.arg:XC→Prop
 | .loop _ _ x=>WFx x
 | _=>True
theorem x_wf (hN:NumsOK L):∀ n cmd s e s',xP L n cmd s=some (e,s')→s'.c=0→cmd.arg→WFx e:=by
 intro n
 induction n with
 | zero=>intro cmd s e s' h;cases h
 | succ n ih =>
  intro cmd s e s' h h0 ha
  have tk:=hN.tok s.p
  have z:(0:Int)≤0∧(0:Int)≤most:=⟨by decide,by decide⟩
  cases cmd with
  | row k lv =>
   rw[xP]at h
   split at h
   · rename_i hc;cases h;exact absurd h0 hc
   · split at h
     · exact ih _ _ _ _ h h0 trivial
     · split at h
       · split at h
         · exact ih _ _ _ _ h h0 trivial
         · split at h
           · rename_i ho;cases h;exact absurd h0 ho
           · simp only[Option.map_eq_some_iff]at h
             obtain⟨⟨e1,s1⟩,h1,h2⟩:=h
             cases h2
             exact WFx.put (Or.inr (Or.inr (Or.inr (Or.inr (Or.inl ⟨rfl,rfl,rfl,Or.inl rfl,rfl⟩))))) (z.1) (z.2) (WFxs.one (ih _ _ _ _ h1 h0 trivial))
       · simp only[Option.bind_eq_some_iff]at h
         obtain⟨⟨e1,s1⟩,h1,h2⟩:=h
         exact ih _ _ _ _ h2 h0 (ih _ _ _ _ h1 ((x_le L _ _ _ _ _ h2).1.code h0) trivial)
  | loop k lv x =>
   rw[xP]at h
   split at h
   · cases h;exact ha
   · rename_i hop
     simp only[Option.bind_eq_some_iff]at h
     obtain⟨⟨e1,s1⟩,h1,h2⟩:=h
     have w:s1.c=0→WFx (.mk 6 (tok L s.p).at_ 0 (opP L s k) ByteArray.empty [x,e1]):=fun h0=>by
      exact WFx.put (Or.inr (Or.inr (Or.inr (Or.inr (Or.inr ⟨rfl,rfl,rfl,opP_ok hop,rfl⟩))))) (z.1) (z.2) (WFxs.two ha (ih _ _ _ _ h1 h0 trivial))
     split at h2
     · cases h2;exact w h0
     · exact ih _ _ _ _ h2 h0 (w ((x_le L _ _ _ _ _ h2).1.code h0))
  | fact lv =>
   rw[xP]at h
   split at h
   · split at h
     · rename_i ho;cases h;exact absurd h0 ho
     · simp only[Option.map_eq_some_iff]at h
       obtain⟨⟨e1,s1⟩,h1,h2⟩:=h
       cases h2
       exact WFx.put (Or.inr (Or.inr (Or.inr (Or.inr (Or.inl ⟨rfl,rfl,rfl,Or.inr rfl,rfl⟩))))) (z.1) (z.2) (WFxs.one (ih _ _ _ _ h1 h0 trivial))
   · split at h
     · cases h
       exact WFx.put (Or.inl ⟨rfl,rfl,rfl,rfl⟩) (tk.1) (tk.2) (WFxs.nil)
     · split at h
       · cases h
         exact WFx.put (Or.inr (Or.inl ⟨rfl,rfl,rfl,Or.inr rfl,rfl⟩)) (by decide) (by decide) (WFxs.nil)
       · split at h
         · cases h
           exact WFx.put (Or.inr (Or.inl ⟨rfl,rfl,rfl,Or.inl rfl,rfl⟩)) (by decide) (by decide) (WFxs.nil)
         · split at h
           · split at h
             · rename_i ho;cases h;exact absurd h0 ho
             · simp only[Option.map_eq_some_iff]at h
               obtain⟨⟨e1,s1⟩,h1,h2⟩:=h
               cases h2
               exact ih _ _ _ _ h1 ((mustS_le _ _ _).code h0) trivial
           · split at h
             · split at h
               · cases h
                 exact WFx.put (Or.inr (Or.inr (Or.inl ⟨rfl,rfl,rfl,rfl⟩))) (z.1) (z.2) (WFxs.nil)
               · simp only[Option.map_eq_some_iff]at h
                 obtain⟨⟨e1,s1⟩,h1,h2⟩:=h
                 cases h2
                 exact WFx.put (Or.inr (Or.inr (Or.inr (Or.inl ⟨rfl,rfl,rfl,rfl⟩)))) (z.1) (z.2) (WFxs.one (ih _ _ _ _ h1 h0 trivial))
             · cases h;exact absurd h0 (faultS_le L s (by omega)).2
  | index lv =>
   rw[xP]at h
   split at h
   · cases h;exact absurd h0 (faultS_le L s (by omega)).2
   · split at h
     · cases h;exact absurd h0 (faultS_le L _ (by omega)).2
     · simp only[Option.map_eq_some_iff]at h
       obtain⟨⟨e1,s1⟩,h1,h2⟩:=h
       cases h2
       exact ih _ _ _ _ h1 ((mustS_le _ _ _).code h0) trivial
def ItmOK (i:Itm):Prop:=0≤i.n∧i.n≤most
def BraOK (b:Bra):Prop:=WFxs b.args∧∀ i∈b.claims,ItmOK i
structure StOK (kind:Int)(ne nbody nels nbr nitems:Nat):Prop where
 lo:1≤kind
 hi:kind≤15
 e:(kind=1∨kind=7∨kind=8∨kind=9∨kind=11∨kind=12∨kind=13→ne=0)∧(kind=2∨kind=4∨kind=5∨kind=14∨kind=15→ne=1)∧(kind=3→ne=2)∧(kind=10→ne≤1)
 body:kind≠4→kind≠5→kind≠10→nbody=0
 els:kind≠4→nels=0
 br:kind≠7→nbr=0
 items:kind≠11→kind≠12→nitems=0
mutual
def WFs:Stm→Prop
 | .mk kind at_ name e body els br items=>StOK kind e.length body.length els.length br.length items.length∧WFxs e∧WFss body∧WFss els∧(∀ b∈br,BraOK b)∧∀ i∈items,ItmOK i
def WFss:List Stm→Prop
 | []=>True
 | s :: l=>WFs s∧WFss l
end
theorem WFss.mem:∀ {l:List Stm},WFss l→∀ e∈l,WFs e
 | [],_,e,h=>by cases h
 | a :: l, h, e, he => by
  simp only[WFss]at h
  rcases List.mem_cons.1 he with rfl | he
  · exact h.1
  · exact WFss.mem h.2 e he
theorem WFss.of:∀ {l:List Stm},(∀ e∈l,WFs e)→WFss l
 | [],_=>by simp only[WFss]
 | a :: l,h=>by simp only[WFss];exact⟨h a (by simp),WFss.of fun e he=>h e (by simp[he])⟩
theorem WFss.snoc {l:List Stm}{e:Stm}(h:WFss l)(he:WFs e):WFss (l++[e]) :=
 WFss.of fun x hx=>by
  rcases List.mem_append.1 hx with hx | hx
  · exact h.mem x hx
  · rw[List.mem_singleton.1 hx];exact he
theorem numP_ok (hN:NumsOK L)(s:PS):0≤(numP L s).1∧(numP L s).1≤most:=by
 unfold numP
 split
 · exact hN.tok _
 · exact⟨by decide,by decide⟩
theorem all_snoc {α:Type}{Q:α→Prop}{l:List α}{a:α}(h:∀ x∈l,Q x)(ha:Q a):∀ x∈l++[a],Q x:=fun x hx=>by
 rcases List.mem_append.1 hx with hx | hx
 · exact h x hx
 · rw[List.mem_singleton.1 hx];exact ha
theorem itemsL_wf (hN:NumsOK L):∀ {n:Nat}{acc:List Itm}{again:Bool}{s s':PS}{l:List Itm},itemsL L n acc again s=some (l,s')→(∀ i∈acc,ItmOK i)→∀ i∈l,ItmOK i
 | 0,_,_,_,_,_,h,_=>by cases h
 | n + 1, acc, again, s, s', l, h, ha => by
  rw[itemsL]at h
  split at h
  · exact itemsL_wf hN h (all_snoc ha (numP_ok hN _))
  · cases h;exact ha
theorem argsL_wf (hN:NumsOK L){lv:Int}:∀ {n:Nat}{acc:List Ex}{again:Bool}{s s':PS}{l:List Ex},argsL L lv n acc again s=some (l,s')→s'.c=0→WFxs acc→WFxs l
 | 0,_,_,_,_,_,h,_,_=>by cases h
 | n + 1, acc, again, s, s', l, h, h0, ha => by
  rw[argsL]at h
  split at h
  · simp only[Option.bind_eq_some_iff]at h
    obtain⟨⟨x,s1⟩,h1,h2⟩:=h
    exact argsL_wf hN h2 h0 (ha.snoc (x_wf hN _ _ _ _ _ h1 ((takeS_le _ _ _).code ((argsL_le h2).code h0)) trivial))
  · cases h;exact ha
theorem argsP_wf (hN:NumsOK L){n:Nat}{lv:Int}{s s':PS}{l:List Ex}(h:argsP L n lv s=some (l,s'))(h0:s'.c=0):WFxs l:=by
 unfold argsP at h
 split at h
 · cases h;simp only[WFxs]
 · simp only[Option.map_eq_some_iff]at h
   obtain⟨⟨x,s1⟩,h1,h2⟩:=h
   cases h2
   exact argsL_wf hN h1 ((mustS_le _ _ _).code h0) (by simp only[WFxs])
theorem branP_wf (hN:NumsOK L){n:Nat}{lv:Int}{s s':PS}{b:Bra}(h:branP L n lv s=some (b,s'))(h0:s'.c=0):BraOK b:=by
 unfold branP at h
 simp only[Option.bind_eq_some_iff]at h
 obtain⟨⟨a,s1⟩,h1,h2⟩:=h
 split at h2
 · simp only[Option.map_eq_some_iff]at h2
   obtain⟨⟨x,s2⟩,h3,h4⟩:=h2
   cases h4
   exact⟨argsP_wf hN h1 ((PS.le_on _).code ((itemsL_le h3).code h0)),itemsL_wf hN h3 (fun i hi=>by cases hi)⟩
 · cases h2
   exact⟨argsP_wf hN h1 h0,fun i hi=>by cases hi⟩
theorem branL_wf (hN:NumsOK L){lv:Int}:∀ {n:Nat}{acc:List Bra}{again:Bool}{s s':PS}{l:List Bra},branL branP L lv n acc again s=some (l,s')→s'.c=0→(∀ b∈acc,BraOK b)→∀ b∈l,BraOK b
 | 0,_,_,_,_,_,h,_,_=>by cases h
 | n + 1, acc, again, s, s', l, h, h0, ha => by
  rw[branL]at h
  split at h
  · simp only[Option.bind_eq_some_iff]at h
    obtain⟨⟨x,s1⟩,h1,h2⟩:=h
    exact branL_wf hN h2 h0 (all_snoc ha (branP_wf hN h1 ((takeS_le _ _ _).code ((branL_le (branP_BLt L) h2).code h0))))
  · cases h;exact ha
theorem nil_all {α:Type}{Q:α→Prop}:∀ x∈([]:List α),Q x:=fun x h=>by cases h
theorem WFs.put {kind at_:Int}{name:ByteArray}{e:List Ex}{body els:List Stm}{br:List Bra}{items:List Itm}(h:StOK kind e.length body.length els.length br.length items.length)(h1:WFxs e)(h2:WFss body:=by simp only[WFss]) (h3:WFss els:=by simp only[WFss])
  (h4:∀ b∈br,BraOK b:=by exact nil_all) (h5:∀ i∈items,ItmOK i:=by exact nil_all):WFs (.mk kind at_ name e body els br items):=by
 simp only[WFs];exact⟨h,h1,h2,h3,h4,h5⟩
theorem namedP_wf (hN:NumsOK L){n:Nat}{lv:Int}{s s':PS}{x:Stm}(h:namedP L n lv s=some (x,s'))(h0:s'.c=0):WFs x:=by
 unfold namedP at h
 split at h
 · simp only[Option.map_eq_some_iff]at h
   obtain⟨⟨x,s1⟩,h1,h2⟩:=h
   cases h2
   exact WFs.put ⟨by omega,by omega,by simp,by simp,by simp,by simp,by simp⟩ (argsP_wf hN h1 h0)
 · split at h
   · simp only[Option.bind_eq_some_iff,Option.map_eq_some_iff]at h
     obtain⟨⟨i,s1⟩,h1,⟨x,s2⟩,h2,h3⟩:=h
     cases h3
     exact WFs.put ⟨by omega,by omega,by simp,by simp,by simp,by simp,by simp⟩ (WFxs.two (x_wf hN _ _ _ _ _ h1 ((mustS_le _ _ _).code ((x_lt h2).le.code h0)) trivial) (x_wf hN _ _ _ _ _ h2 h0 trivial))
   · simp only[Option.map_eq_some_iff]at h
     obtain⟨⟨x,s2⟩,h2,h3⟩:=h
     cases h3
     exact WFs.put ⟨by omega,by omega,by simp,by simp,by simp,by simp,by simp⟩ (WFxs.one (x_wf hN _ _ _ _ _ h2 h0 trivial))
theorem st_wf (hN:NumsOK L):∀ n,(∀ lv s x s',stmtP branP L n lv s=some (x,s')→s'.c=0→WFs x)∧(∀ lv acc again s l s',stmtsL branP L n lv acc again s=some (l,s')→s'.c=0→WFss acc→WFss l)∧(∀ o lv s l s',blockP branP L n o lv s=some (l,s')→s'.c=0→WFss l):=by
 have hB:=branP_BLt L
 intro n
 induction n with
 | zero=>exact⟨fun _ _ _ _ h=>(by rw[stmtP]at h;cases h),fun _ _ _ _ _ _ h=>(by rw[stmtsL]at h;cases h),fun _ _ _ _ _ h=>(by rw[blockP]at h;cases h)⟩
 | succ n ih =>
  have mc:=fun (s:PS) (x:ByteArray)=>(mustS_le L s x).code
  have nx:WFxs []:=by simp only[WFxs]
  refine⟨?_,?_,?_⟩
  · intro lv s x s' h h0
    rw[stmtP]at h
    by_cases c1:(tok L s.p).kind=1
    · rw[if_pos c1]at h;exact namedP_wf hN h h0
    rw[if_neg c1]at h
    by_cases c2:isP L s tSkip=true
    · rw[if_pos c2]at h;cases h
      exact WFs.put ⟨by omega,by omega,by simp,by simp,by simp,by simp,by simp⟩ nx
    rw[if_neg c2]at h
    by_cases c3:isP L s tIf=true
    · rw[if_pos c3]at h
      simp only[Option.bind_eq_some_iff]at h
      obtain⟨⟨x1,s1⟩,h1,⟨b1,s2⟩,h2,h3⟩:=h
      have fin:∀ (c:List Stm),s2.c=0→WFss c→WFs (.mk 4 (tok L s.p).at_ ByteArray.empty [x1] b1 c [] []):=fun c hc hw =>
       WFs.put ⟨by omega,by omega,by simp,by simp,by simp,by simp,by simp⟩ (WFxs.one (x_wf hN _ _ _ _ _ h1 (((st_le hB n).2.2 _ _ _ _ _ h2).code hc) trivial)) (ih.2.2 _ _ _ _ _ h2 hc) hw
      split at h3
      · simp only[Option.map_eq_some_iff]at h3
        obtain⟨⟨c1,s3⟩,h3,h4⟩:=h3
        cases h4
        have k:=mc _ _ h0
        exact fin _ (((st_le hB n).2.2 _ _ _ _ _ h3).code k) (ih.2.2 _ _ _ _ _ h3 k)
      · cases h3;exact fin _ (mc _ _ h0) (by simp only[WFss])
    rw[if_neg c3]at h
    by_cases c4:isP L s tWhile=true
    · rw[if_pos c4]at h
      simp only[Option.bind_eq_some_iff,Option.map_eq_some_iff]at h
      obtain⟨⟨x1,s1⟩,h1,⟨b1,s2⟩,h2,h3⟩:=h
      cases h3
      have k:=mc _ _ h0
      exact WFs.put ⟨by omega,by omega,by simp,by simp,by simp,by simp,by simp⟩ (WFxs.one (x_wf hN _ _ _ _ _ h1 (((st_le hB n).2.2 _ _ _ _ _ h2).code k) trivial)) (ih.2.2 _ _ _ _ _ h2 k)
    rw[if_neg c4]at h
    by_cases c5:isP L s tCobegin=true
    · rw[if_pos c5]at h
      simp only[Option.map_eq_some_iff]at h
      obtain⟨⟨b1,s2⟩,h2,h3⟩:=h
      cases h3
      exact WFs.put ⟨by omega,by omega,by simp,by simp,by simp,by simp,by simp⟩ nx (h4:=branL_wf hN h2 (mc _ _ h0) nil_all)
    rw[if_neg c5]at h
    by_cases c6:isP L s (b1 80)=true∨isP L s (b1 86)=true
    · rw[if_pos c6]at h
      cases h
      refine WFs.put ?_ nx
      split
      · exact⟨by omega,by omega,by simp,by simp,by simp,by simp,by simp⟩
      · exact⟨by omega,by omega,by simp,by simp,by simp,by simp,by simp⟩
    rw[if_neg c6]at h
    by_cases c7:isP L s tRegion=true
    · rw[if_pos c7]at h
      split at h
      · simp only[Option.bind_eq_some_iff,Option.map_eq_some_iff]at h
        obtain⟨⟨x1,s1⟩,h1,⟨b1,s2⟩,h2,h3⟩:=h
        cases h3
        have k:=mc _ _ h0
        exact WFs.put ⟨by omega,by omega,by simp,by simp,by simp,by simp,by simp⟩ (WFxs.one (x_wf hN _ _ _ _ _ h1 (((st_le hB n).2.2 _ _ _ _ _ h2).code k) trivial)) (ih.2.2 _ _ _ _ _ h2 k)
      · simp only[Option.map_eq_some_iff]at h
        obtain⟨⟨b1,s2⟩,h2,h3⟩:=h
        cases h3
        exact WFs.put ⟨by omega,by omega,by simp,by simp,by simp,by simp,by simp⟩ nx (ih.2.2 _ _ _ _ _ h2 (mc _ _ h0))
    rw[if_neg c7]at h
    by_cases c8:isP L s tRequest=true
    · rw[if_pos c8]at h
      simp only[Option.map_eq_some_iff]at h
      obtain⟨⟨b1,s2⟩,h2,h3⟩:=h
      cases h3
      exact WFs.put ⟨by omega,by omega,by simp,by simp,by simp,by simp,by simp⟩ nx (h5:=itemsL_wf hN h2 nil_all)
    rw[if_neg c8]at h
    by_cases c9:isP L s tRelease=true
    · rw[if_pos c9]at h
      simp only[Option.map_eq_some_iff]at h
      obtain⟨⟨b1,s2⟩,h2,h3⟩:=h
      cases h3
      exact WFs.put ⟨by omega,by omega,by simp,by simp,by simp,by simp,by simp⟩ nx (h5:=itemsL_wf hN h2 nil_all)
    rw[if_neg c9]at h
    by_cases c10:isP L s tRead=true
    · rw[if_pos c10]at h
      split at h
      · simp only[Option.map_eq_some_iff]at h
        obtain⟨⟨b1,s2⟩,h2,h3⟩:=h
        cases h3
        exact WFs.put ⟨by omega,by omega,by simp,by simp,by simp,by simp,by simp⟩ (WFxs.one (x_wf hN _ _ _ _ _ h2 h0 trivial))
      · cases h;exact WFs.put ⟨by omega,by omega,by simp,by simp,by simp,by simp,by simp⟩ nx
    rw[if_neg c10]at h
    by_cases c11:isP L s tWrite=true
    · rw[if_pos c11]at h
      simp only[Option.map_eq_some_iff]at h
      obtain⟨⟨b1,s2⟩,h2,h3⟩:=h
      cases h3
      exact WFs.put ⟨by omega,by omega,by simp,by simp,by simp,by simp,by simp⟩ (WFxs.one (x_wf hN _ _ _ _ _ h2 h0 trivial))
    rw[if_neg c11]at h
    cases h;exact absurd h0 (faultS_le L s (by omega)).2
  · intro lv acc again s l s' h h0 ha
    rw[stmtsL]at h
    split at h
    · simp only[Option.bind_eq_some_iff]at h
      obtain⟨⟨x,s1⟩,h1,h2⟩:=h
      exact ih.2.1 _ _ _ _ _ _ h2 h0 (ha.snoc (ih.1 _ _ _ _ h1 ((takeS_le _ _ _).code (((st_le hB n).2.1 _ _ _ _ _ _ h2).code h0))))
    · cases h;exact ha
  · intro o lv s l s' h h0
    rw[blockP]at h
    split at h
    · cases h;simp only[WFss]
    · split at h
      · cases h;simp only[WFss]
      · exact ih.2.1 _ _ _ _ _ _ h h0 (by simp only[WFss])
end Go.Vm.Parse
namespace Go.Vm.Parse
open Go Go.Proofs
mutual
def szX:Ex→Nat
 | .mk _ _ _ _ _ sub=>1+szXs sub
def szXs:List Ex→Nat
 | []=>0
 | e :: es=>szX e+szXs es
end
def szB (b:Bra):Nat:=1+szXs b.args+b.claims.length
def szBs:List Bra→Nat
 | []=>0
 | b :: l=>szB b+szBs l
mutual
def szS:Stm→Nat
 | .mk _ _ _ e body els br items=>1+szXs e+szSs body+szSs els+szBs br+items.length
def szSs:List Stm→Nat
 | []=>0
 | s :: l=>szS s+szSs l
end
theorem szXs_snoc (e:Ex):∀ l:List Ex,szXs (l++[e])=szXs l+szX e
 | []=>by simp[szXs]
 | a :: l=>by simp only[List.cons_append,szXs,szXs_snoc e l];omega
theorem szBs_snoc (e:Bra):∀ l:List Bra,szBs (l++[e])=szBs l+szB e
 | []=>by simp[szBs]
 | a :: l=>by simp only[List.cons_append,szBs,szBs_snoc e l];omega
theorem szSs_snoc (e:Stm):∀ l:List Stm,szSs (l++[e])=szSs l+szS e
 | []=>by simp[szSs]
 | a :: l=>by simp only[List.cons_append,szSs,szSs_snoc e l];omega
theorem szX_pos (e:Ex):1≤szX e:=by cases e;simp only[szX];omega
theorem szS_pos (e:Stm):1≤szS e:=by cases e;simp only[szS];omega
theorem szXs_len:∀ l:List Ex,l.length≤szXs l
 | []=>Nat.le_refl _
 | a :: l=>by have:=szXs_len l;have:=szX_pos a;simp only[List.length_cons,szXs];omega
theorem szSs_len:∀ l:List Stm,l.length≤szSs l
 | []=>Nat.le_refl _
 | a :: l=>by have:=szSs_len l;have:=szS_pos a;simp only[List.length_cons,szSs];omega
structure Ate (L:List Tk)(s s':PS)(k:Nat):Prop where
 place:s'.p≤max s.p L.length
 code:s'.c=0→s.c=0
 size:s'.c=0→k+s.p≤s'.p
variable {L:List Tk}
theorem Ate.refl (s:PS):Ate L s s 0:=⟨by omega,fun h=>h,fun _=>by omega⟩
theorem Ate.trans {a b c:PS}{j k:Nat}(h:Ate L a b j)(h':Ate L b c k):Ate L a c (j+k) :=
 ⟨by have:=h.place;have:=h'.place;omega,fun e=>h.code (h'.code e),fun e=>by have:=h'.size e;have:=h.size (h'.code e);omega⟩
theorem Ate.weak {s s':PS}{j k:Nat}(h:Ate L s s' k)(hj:j≤k):Ate L s s' j:=⟨h.place,h.code,fun e=>by have:=h.size e;omega⟩
theorem Ate.bad {s s':PS}(k:Nat)(h:s'.c≠0)(hp:s'.p≤max s.p L.length):Ate L s s' k:=⟨hp,fun e=>absurd e h,fun e=>absurd e h⟩
theorem ate_on {s:PS}(h:s.p<L.length):Ate L s s.on 1:=⟨by show s.p+1≤_;omega,fun e=>e,fun _=>by show 1+s.p≤s.p+1;omega⟩
theorem ate_fault (s:PS){c:Int}(hc:c≠0)(k:Nat):Ate L s (faultS L s c) k:=Ate.bad k (faultS_le L s hc).2 (by unfold faultS;split<;>(first | omega | (dsimp only;omega)))
theorem ate_must (s:PS)(x:ByteArray):Ate L s (mustS L s x) 1:=by
 unfold mustS
 split
 · rename_i h;exact ate_on (isP_lt h)
 · exact ate_fault s (by omega) 1
theorem ate_take (s:PS)(x:ByteArray):Ate L s (takeS L s x) 0:=by
 unfold takeS
 split
 · rename_i h;exact (ate_on (isP_lt h)).weak (by omega)
 · exact Ate.refl s
theorem ate_opens (s:PS)(lv:Int):Ate L s (opensS L s lv) 0:=by
 unfold opensS
 split
 · exact ate_fault s (by omega) 0
 · exact Ate.refl s
theorem ate_name (s:PS):Ate L s (nameS L s) 1:=by
 unfold nameS
 split
 · rename_i h;exact ate_on (tok_ge_kind (by omega))
 · exact ate_fault s (by omega) 1
theorem ate_num (s:PS):Ate L s (numS L s) 1:=by
 unfold numS
 split
 · rename_i h;exact ate_on (tok_ge_kind (by omega))
 · exact ate_fault s (by omega) 1
theorem opens_place (s:PS)(lv:Int):(opensS L s lv).p=s.p:=by
 unfold opensS
 split
 · unfold faultS;split<;>rfl
 · rfl
def XC.sz:XC→Nat
 | .loop _ _ x=>szX x
 | _=>0
theorem x_ate:∀ n cmd s e s',xP L n cmd s=some (e,s')→s'.p≤max s.p L.length∧(s'.c=0→szX e+s.p≤cmd.sz+s'.p):=by
 intro n
 induction n with
 | zero=>intro cmd s e s' h;cases h
 | succ n ih =>
  intro cmd s e s' h
  have l0:∀ {a b c d y},szX (.mk a b c d y [])=1:=by simp[szX,szXs]
  have l1:∀ {a b c d y} {x:Ex},szX (.mk a b c d y [x])=1+szX x:=by intros;simp[szX,szXs]
  have l2:∀ {a b c d y} {x x2:Ex},szX (.mk a b c d y [x,x2])=1+szX x+szX x2:=by intros;simp[szX,szXs];omega
  have on:∀ {x:PS},x.on.p=x.p+1:=fun {x}=>rfl
  have tp:(tok L s.p).kind≠5→s.p<L.length:=tok_ge_kind
  cases cmd with
  | row k lv =>
   simp only[XC.sz]
   rw[xP]at h
   split at h
   · rename_i hc;cases h;exact⟨by omega,fun h=>absurd h hc⟩
   · split at h
     · exact ih _ _ _ _ h
     · split at h
       · split at h
         · exact ih _ _ _ _ h
         · rename_i hb
           have hs:=isP_lt (L:=L) (s:=s) (x:=tNot) (by simpa using hb)
           split at h
           · rename_i ho;cases h;exact⟨by rw[opens_place];omega,fun h=>absurd h ho⟩
           · simp only[Option.map_eq_some_iff]at h
             obtain⟨⟨e1,s1⟩,h1,h2⟩:=h
             cases h2
             have:=ih _ _ _ _ h1
             simp only[XC.sz,on,opens_place,l1]at this ⊢
             exact⟨by omega,fun h=>by have:=this.2 h;omega⟩
       · simp only[Option.bind_eq_some_iff]at h
         obtain⟨⟨e1,s1⟩,h1,h2⟩:=h
         have a:=ih _ _ _ _ h1
         have b:=ih _ _ _ _ h2
         have c:=(x_le L _ _ _ _ _ h2).1.code
         simp only[XC.sz]at a b
         exact⟨by omega,fun h=>by have:=b.2 h;have:=a.2 (c h);omega⟩
  | loop k lv x =>
   simp only[XC.sz]
   rw[xP]at h
   split at h
   · cases h;exact⟨by omega,fun _=>Nat.le_refl _⟩
   · rename_i hop
     have hs:s.p<L.length:=tp (fun h5=>hop (by unfold opP;rw[if_neg (by omega)]))
     simp only[Option.bind_eq_some_iff]at h
     obtain⟨⟨e1,s1⟩,h1,h2⟩:=h
     have a:=ih _ _ _ _ h1
     simp only[XC.sz,on]at a
     split at h2
     · cases h2;simp only[l2];exact⟨by omega,fun h=>by have:=a.2 h;omega⟩
     · have b:=ih _ _ _ _ h2
       have c:=(x_le L _ _ _ _ _ h2).1.code
       simp only[XC.sz,l2]at b
       exact⟨by omega,fun h=>by have:=b.2 h;have:=a.2 (c h);omega⟩
  | fact lv =>
   simp only[XC.sz]
   rw[xP]at h
   split at h
   · rename_i hb
     have hs:=isP_lt hb
     split at h
     · rename_i ho;cases h;exact⟨by rw[opens_place];omega,fun h=>absurd h ho⟩
     · simp only[Option.map_eq_some_iff]at h
       obtain⟨⟨e1,s1⟩,h1,h2⟩:=h
       cases h2
       have:=ih _ _ _ _ h1
       simp only[XC.sz,on,opens_place,l1]at this ⊢
       exact⟨by omega,fun h=>by have:=this.2 h;omega⟩
   · split at h
     · rename_i hk
       have hs:=tp (by omega)
       cases h;simp only[l0,on];exact⟨by omega,fun _=>by omega⟩
     · split at h
       · rename_i hb
         have hs:=isP_lt hb
         cases h;simp only[l0,on];exact⟨by omega,fun _=>by omega⟩
       · split at h
         · rename_i hb
           have hs:=isP_lt hb
           cases h;simp only[l0,on];exact⟨by omega,fun _=>by omega⟩
         · split at h
           · rename_i hb
             have hs:=isP_lt hb
             split at h
             · rename_i ho;cases h;exact⟨by rw[opens_place];omega,fun h=>absurd h ho⟩
             · simp only[Option.map_eq_some_iff]at h
               obtain⟨⟨e1,s1⟩,h1,h2⟩:=h
               cases h2
               have a:=ih _ _ _ _ h1
               have b:=ate_must (L:=L) s1 (b1 41)
               have b1:=b.place
               simp only[XC.sz,on,opens_place]at a ⊢
               exact⟨by omega,fun h=>by have:=a.2 (b.code h);have:=b.size h;omega⟩
           · split at h
             · rename_i hk
               have hs:=tp (by omega)
               split at h
               · cases h;simp only[l0,on];exact⟨by omega,fun _=>by omega⟩
               · simp only[Option.map_eq_some_iff]at h
                 obtain⟨⟨e1,s1⟩,h1,h2⟩:=h
                 cases h2
                 have a:=ih _ _ _ _ h1
                 simp only[XC.sz,on,l1]at a ⊢
                 exact⟨by omega,fun h=>by have:=a.2 h;omega⟩
             · cases h
               have b:=ate_fault (L:=L) s (c:=14) (by omega) (szX .zero)
               exact⟨b.place,fun h=>by have:=b.size h;omega⟩
  | index lv =>
   simp only[XC.sz]
   rw[xP]at h
   split at h
   · cases h
     have b:=ate_fault (L:=L) s (c:=14) (by omega) (szX .zero)
     exact⟨b.place,fun h=>by have:=b.size h;omega⟩
   · rename_i hb
     have hs:=isP_lt (L:=L) (s:=s) (x:=b1 91) (by simpa using hb)
     split at h
     · cases h
       have b:=ate_fault (L:=L) (opensS L s (lv+1)) (c:=14) (by omega) (szX .zero)
       have b1:=b.place
       rw[opens_place]at b1
       exact⟨b1,fun h=>absurd h (faultS_le L _ (by omega)).2⟩
     · simp only[Option.map_eq_some_iff]at h
       obtain⟨⟨e1,s1⟩,h1,h2⟩:=h
       cases h2
       have a:=ih _ _ _ _ h1
       have b:=ate_must (L:=L) s1 (b1 93)
       have b1:=b.place
       simp only[XC.sz,on,opens_place]at a ⊢
       exact⟨by omega,fun h=>by have:=a.2 (b.code h);have:=b.size h;omega⟩
theorem ate_x {n:Nat}{cmd:XC}{s s':PS}{e:Ex}(h:xP L n cmd s=some (e,s'))(hc:cmd.sz=0:=by rfl):Ate L s s' (szX e) :=
 ⟨(x_ate _ _ _ _ _ h).1,(x_le L _ _ _ _ _ h).1.code,fun h0=>by have:=(x_ate _ _ _ _ _ h).2 h0;omega⟩
structure Ate2 (L:List Tk)(s s':PS)(j k:Nat):Prop where
 place:s'.p≤max s.p L.length
 code:s'.c=0→s.c=0
 size:s'.c=0→k+s.p≤j+s'.p
theorem Ate2.refl (s:PS)(k:Nat):Ate2 L s s k k:=⟨by omega,fun h=>h,fun _=>by omega⟩
theorem Ate.then2 {a b c:PS}{i j k:Nat}(h:Ate L a b i)(h':Ate2 L b c (j+i) k):Ate2 L a c j k :=
 ⟨by have:=h.place;have:=h'.place;omega,fun e=>h.code (h'.code e),fun e=>by have:=h'.size e;have:=h.size (h'.code e);omega⟩
theorem Ate2.one {a b:PS}{k:Nat}(h:Ate2 L a b 0 k):Ate L a b k:=⟨h.place,h.code,fun e=>by have:=h.size e;omega⟩
theorem ate_items:∀ {n:Nat}{acc:List Itm}{again:Bool}{s s':PS}{l:List Itm},itemsL L n acc again s=some (l,s')→Ate2 L s s' acc.length l.length
 | 0,_,_,_,_,_,h=>by cases h
 | n + 1, acc, again, s, s', l, h => by
  rw[itemsL]at h
  split at h
  · have a:=ate_items h
    simp only[List.length_append,List.length_cons,List.length_nil]at a
    exact ((((ate_name s).trans (ate_num _)).trans (ate_take _ _)).weak (by omega)).then2 a
  · cases h;exact Ate2.refl _ _
theorem ate_args {lv:Int}:∀ {n:Nat}{acc:List Ex}{again:Bool}{s s':PS}{l:List Ex},argsL L lv n acc again s=some (l,s')→Ate2 L s s' (szXs acc) (szXs l)
 | 0,_,_,_,_,_,h=>by cases h
 | n + 1, acc, again, s, s', l, h => by
  rw[argsL]at h
  split at h
  · simp only[Option.bind_eq_some_iff]at h
    obtain⟨⟨x,s1⟩,h1,h2⟩:=h
    have a:=ate_args h2
    rw[szXs_snoc]at a
    exact (((ate_x h1).trans (ate_take _ _)).weak (by dsimp only;omega)).then2 a
  · cases h;exact Ate2.refl _ _
theorem isP_must {s:PS}{x:ByteArray}(h:isP L s x=true):Ate L s s.on 1:=ate_on (isP_lt h)
theorem ate_argsP {n:Nat}{lv:Int}{s s':PS}{l:List Ex}(h:argsP L n lv s=some (l,s')):Ate L s s' (szXs l):=by
 unfold argsP at h
 split at h
 · rename_i hb
   cases h
   exact ((ate_must s (b1 40)).trans (isP_must hb)).weak (by simp[szXs])
 · simp only[Option.map_eq_some_iff]at h
   obtain⟨⟨x,s1⟩,h1,h2⟩:=h
   cases h2
   have a:=(ate_args h1).one
   exact (((ate_must s (b1 40)).trans a).trans (ate_must _ _)).weak (by dsimp only;omega)
theorem ate_branP {n:Nat}{lv:Int}{s s':PS}{b:Bra}(h:branP L n lv s=some (b,s')):Ate L s s' (szB b):=by
 unfold branP at h
 simp only[Option.bind_eq_some_iff]at h
 obtain⟨⟨a,s1⟩,h1,h2⟩:=h
 split at h2
 · rename_i hb
   simp only[Option.map_eq_some_iff]at h2
   obtain⟨⟨x,s2⟩,h3,h4⟩:=h2
   cases h4
   exact ((((ate_name s).trans (ate_argsP h1)).trans (isP_must hb)).trans (ate_items h3).one).weak (by simp only[szB];omega)
 · cases h2
   exact ((ate_name s).trans (ate_argsP h1)).weak (by simp only[szB,List.length_nil];omega)
theorem ate_branL {lv:Int}:∀ {n:Nat}{acc:List Bra}{again:Bool}{s s':PS}{l:List Bra},branL branP L lv n acc again s=some (l,s')→Ate2 L s s' (szBs acc) (szBs l)
 | 0,_,_,_,_,_,h=>by cases h
 | n + 1, acc, again, s, s', l, h => by
  rw[branL]at h
  split at h
  · simp only[Option.bind_eq_some_iff]at h
    obtain⟨⟨x,s1⟩,h1,h2⟩:=h
    have a:=ate_branL h2
    rw[szBs_snoc]at a
    exact (((ate_branP h1).trans (ate_take _ _)).weak (by dsimp only;omega)).then2 a
  · cases h;exact Ate2.refl _ _
theorem ate_named {n:Nat}{lv:Int}{s s':PS}{x:Stm}(h:namedP L n lv s=some (x,s')):Ate L s s' (szS x):=by
 unfold namedP at h
 split at h
 · simp only[Option.map_eq_some_iff]at h
   obtain⟨⟨x,s1⟩,h1,h2⟩:=h
   cases h2
   exact ((ate_name s).trans (ate_argsP h1)).weak (by simp[szS,szSs,szBs])
 · split at h
   · simp only[Option.bind_eq_some_iff,Option.map_eq_some_iff]at h
     obtain⟨⟨i,s1⟩,h1,⟨x,s2⟩,h2,h3⟩:=h
     cases h3
     exact ((((ate_name s).trans (ate_x h1)).trans (ate_must _ _)).trans (ate_x h2)).weak (by simp[szS,szSs,szBs,szXs]<;>omega)
   · simp only[Option.map_eq_some_iff]at h
     obtain⟨⟨x,s2⟩,h2,h3⟩:=h
     cases h3
     exact (((ate_name s).trans (ate_must _ _)).trans (ate_x h2)).weak (by simp[szS,szSs,szBs,szXs]<;>omega)
theorem ate_st:∀ n,(∀ lv s x s',stmtP branP L n lv s=some (x,s')→Ate L s s' (szS x))∧(∀ lv acc again s l s',stmtsL branP L n lv acc again s=some (l,s')→Ate2 L s s' (szSs acc) (szSs l))∧(∀ o lv s l s',blockP branP L n o lv s=some (l,s')→Ate L s s' (szSs l)):=by
 intro n
 induction n with
 | zero=>exact⟨fun _ _ _ _ h=>(by rw[stmtP]at h;cases h),fun _ _ _ _ _ _ h=>(by rw[stmtsL]at h;cases h),fun _ _ _ _ _ h=>(by rw[blockP]at h;cases h)⟩
 | succ n ih =>
  refine⟨?_,?_,?_⟩
  · intro lv s x s' h
    have on:∀ {x:ByteArray},isP L s x=true→Ate L s s.on 1:=fun h=>isP_must h
    rw[stmtP]at h
    by_cases c1:(tok L s.p).kind=1
    · rw[if_pos c1]at h;exact ate_named h
    rw[if_neg c1]at h
    by_cases c2:isP L s tSkip=true
    · rw[if_pos c2]at h;cases h;exact (on c2).weak (by simp[szS,szSs,szBs,szXs])
    rw[if_neg c2]at h
    by_cases c3:isP L s tIf=true
    · rw[if_pos c3]at h
      simp only[Option.bind_eq_some_iff]at h
      obtain⟨⟨x1,s1⟩,h1,⟨b1,s2⟩,h2,h3⟩:=h
      have k:=((on c3).trans (ate_x h1)).trans (ih.2.2 _ _ _ _ _ h2)
      split at h3
      · simp only[Option.map_eq_some_iff]at h3
        obtain⟨⟨c1,s3⟩,h3,h4⟩:=h3
        cases h4
        exact ((k.trans (ih.2.2 _ _ _ _ _ h3)).trans (ate_must _ _)).weak (by simp[szS,szSs,szBs,szXs]<;>omega)
      · cases h3;exact (k.trans (ate_must _ _)).weak (by simp[szS,szSs,szBs,szXs]<;>omega)
    rw[if_neg c3]at h
    by_cases c4:isP L s tWhile=true
    · rw[if_pos c4]at h
      simp only[Option.bind_eq_some_iff,Option.map_eq_some_iff]at h
      obtain⟨⟨x1,s1⟩,h1,⟨b1,s2⟩,h2,h3⟩:=h
      cases h3
      exact ((((on c4).trans (ate_x h1)).trans (ih.2.2 _ _ _ _ _ h2)).trans (ate_must _ _)).weak (by simp[szS,szSs,szBs,szXs]<;>omega)
    rw[if_neg c4]at h
    by_cases c5:isP L s tCobegin=true
    · rw[if_pos c5]at h
      simp only[Option.map_eq_some_iff]at h
      obtain⟨⟨b1,s2⟩,h2,h3⟩:=h
      cases h3
      exact (((on c5).trans (ate_branL h2).one).trans (ate_must _ _)).weak (by simp[szS,szSs,szXs,szBs]<;>omega)
    rw[if_neg c5]at h
    by_cases c6:isP L s (b1 80)=true∨isP L s (b1 86)=true
    · rw[if_pos c6]at h
      cases h
      have o1:Ate L s s.on 1:=by rcases c6 with h | h<;>exact on h
      exact ((((o1.trans (ate_must _ _)).trans (ate_name _)).trans (ate_must _ _))).weak (by simp[szS,szSs,szBs,szXs])
    rw[if_neg c6]at h
    by_cases c7:isP L s tRegion=true
    · rw[if_pos c7]at h
      have k:=(on c7).trans (ate_name s.on)
      split at h
      · rename_i hb
        simp only[Option.bind_eq_some_iff,Option.map_eq_some_iff]at h
        obtain⟨⟨x1,s1⟩,h1,⟨b1,s2⟩,h2,h3⟩:=h
        cases h3
        exact ((((k.trans (isP_must hb)).trans (ate_x h1)).trans (ih.2.2 _ _ _ _ _ h2)).trans (ate_must _ _)).weak (by simp[szS,szSs,szBs,szXs]<;>omega)
      · simp only[Option.map_eq_some_iff]at h
        obtain⟨⟨b1,s2⟩,h2,h3⟩:=h
        cases h3
        exact ((k.trans (ih.2.2 _ _ _ _ _ h2)).trans (ate_must _ _)).weak (by simp[szS,szSs,szBs,szXs]<;>omega)
    rw[if_neg c7]at h
    by_cases c8:isP L s tRequest=true
    · rw[if_pos c8]at h
      simp only[Option.map_eq_some_iff]at h
      obtain⟨⟨b1,s2⟩,h2,h3⟩:=h
      cases h3
      exact ((on c8).trans (ate_items h2).one).weak (by simp[szS,szSs,szBs,szXs])
    rw[if_neg c8]at h
    by_cases c9:isP L s tRelease=true
    · rw[if_pos c9]at h
      simp only[Option.map_eq_some_iff]at h
      obtain⟨⟨b1,s2⟩,h2,h3⟩:=h
      cases h3
      exact ((on c9).trans (ate_items h2).one).weak (by simp[szS,szSs,szBs,szXs])
    rw[if_neg c9]at h
    by_cases c10:isP L s tRead=true
    · rw[if_pos c10]at h
      have k:=(on c10).trans (ate_name s.on)
      split at h
      · simp only[Option.map_eq_some_iff]at h
        obtain⟨⟨b1,s2⟩,h2,h3⟩:=h
        cases h3
        exact (k.trans (ate_x h2)).weak (by simp[szS,szSs,szBs,szXs]<;>omega)
      · cases h;exact k.weak (by simp[szS,szSs,szBs,szXs])
    rw[if_neg c10]at h
    by_cases c11:isP L s tWrite=true
    · rw[if_pos c11]at h
      simp only[Option.map_eq_some_iff]at h
      obtain⟨⟨b1,s2⟩,h2,h3⟩:=h
      cases h3
      exact ((on c11).trans (ate_x h2)).weak (by simp[szS,szSs,szBs,szXs])
    rw[if_neg c11]at h
    cases h;exact ate_fault s (by omega) _
  · intro lv acc again s l s' h
    rw[stmtsL]at h
    split at h
    · simp only[Option.bind_eq_some_iff]at h
      obtain⟨⟨x,s1⟩,h1,h2⟩:=h
      have a:=ih.2.1 _ _ _ _ _ _ h2
      rw[szSs_snoc]at a
      exact (((ih.1 _ _ _ _ h1).trans (ate_take _ _)).weak (by dsimp only;omega)).then2 a
    · cases h;exact Ate2.refl _ _
  · intro o lv s l s' h
    rw[blockP]at h
    split at h
    · cases h;exact ate_fault s (by omega) _
    · rename_i hb
      split at h
      · rename_i ho
        cases h;exact Ate.bad _ ho (by rw[opens_place];omega)
      · have hs:=isP_lt (L:=L) (s:=s) (x:=o) (by simpa using hb)
        have a:Ate L (opensS L s (lv+1)) (opensS L s (lv+1)).on 1:=ate_on (by rw[opens_place];exact hs)
        exact (((ate_opens s (lv+1)).trans a).trans (ih.2.1 _ _ _ _ _ _ h).one).weak (by omega)
structure DclOK (d:Dcl):Prop where
 k1:1≤d.kind
 k4:d.kind≤4
 n0:0≤d.n
 n1:d.n≤most
 n2:3≤d.kind→d.n≤64
def szP (p:Prc):Nat:=1+p.params.length+p.vars.length+szSs p.body
def szPs:List Prc→Nat
 | []=>0
 | p :: l=>szP p+szPs l
theorem szPs_snoc (e:Prc):∀ l:List Prc,szPs (l++[e])=szPs l+szP e
 | []=>by simp[szPs]
 | a :: l=>by simp only[List.cons_append,szPs,szPs_snoc e l];omega
theorem szPs_len:∀ l:List Prc,l.length≤szPs l
 | []=>Nat.le_refl _
 | a :: l=>by have:=szPs_len l;simp only[List.length_cons,szPs,szP];omega
theorem szPs_mem:∀ {l:List Prc}{p:Prc},p∈l→szP p≤szPs l
 | a :: l, p, h => by
  simp only[szPs]
  rcases List.mem_cons.1 h with rfl | h
  · omega
  · have:=szPs_mem h;omega
structure SrcOK (S:Src)(n:Nat):Prop where
 decls:∀ d∈S.decls,DclOK d
 procs:∀ p∈S.procs,WFss p.body
 claims:∀ i∈S.claims,ItmOK i
 body:WFss S.body
 size:S.decls.length+szPs S.procs+S.claims.length+szSs S.body≤n
theorem ate_size (s:PS):Ate L s (sizeP L s).2 0:=by
 unfold sizeP
 split
 · exact Ate.refl s
 · rename_i hb
   have hs:=isP_lt (L:=L) (s:=s) (x:=b1 91) (by simpa using hb)
   have u:∀ (s:PS) q,Ate L s (unitS L s q) 0:=fun s q=>by
    unfold unitS
    split
    · exact Ate.bad 0 (by simp) (by simp only[];omega)
    · exact Ate.refl s
   exact ((((ate_on hs).trans (ate_num s.on)).trans (u _ _)).trans (ate_must _ _)).weak (by omega)
theorem unitsP_ok (hN:NumsOK L)(k:Int)(s:PS):0≤(unitsP L k s).1∧(unitsP L k s).1≤most∧((unitsP L k s).2.c=0→3≤k→(unitsP L k s).1≤64):=by
 unfold unitsP
 split
 · exact⟨(numP_ok hN s).1,(numP_ok hN s).2,fun _ h=>by omega⟩
 · unfold sizeP
   split
   · exact⟨Int.le_refl 0,by show (0:Int)≤most;decide,fun _ _=>by simp⟩
   · refine⟨(numP_ok hN _).1,(numP_ok hN _).2,fun h0 _ => ?_⟩
     have h1:=(mustS_le _ _ _).code h0
     unfold unitS at h1
     split at h1
     · cases h1
     · rename_i hc
       have:¬((numP L s.on).1<1∨64<(numP L s.on).1):=fun h=>hc ⟨h1,h⟩
       dsimp only
       omega
theorem decls_ok (hN:NumsOK L):∀ {n:Nat}{acc:List Dcl}{s s':PS}{l:List Dcl},declsL L n acc s=some (l,s')→s'.c=0→(∀ d∈acc,DclOK d)→(∀ d∈l,DclOK d)
 | 0,_,_,_,_,h,_,_=>by cases h
 | n + 1, acc, s, s', l, h, h0, ha => by
  rw[declsL]at h
  split at h
  · split at h
    · cases h;exact ha
    · rename_i hk
      refine decls_ok hN h h0 (all_snoc ha ?_)
      have h1:=(declsL_le h).code h0
      have h2:=(mustS_le _ _ _).code h1
      have u:=unitsP_ok hN (kindP L s) (nameS L s.on)
      have kb:1≤kindP L s∧kindP L s≤4:=by
       unfold kindP at hk ⊢
       repeat' split
       all_goals first | omega | simp_all
      exact⟨kb.1,kb.2,u.1,u.2.1,fun hk=>u.2.2 h2 hk⟩
  · cases h;exact ha
theorem ate_decls:∀ {n:Nat}{acc:List Dcl}{s s':PS}{l:List Dcl},declsL L n acc s=some (l,s')→Ate2 L s s' acc.length l.length
 | 0,_,_,_,_,h=>by cases h
 | n + 1, acc, s, s', l, h => by
  rw[declsL]at h
  split at h
  · split at h
    · cases h;exact Ate2.refl _ _
    · rename_i hk
      have a:=ate_decls h
      simp only[List.length_append,List.length_cons,List.length_nil]at a
      have u:∀ s,Ate L s (unitsP L (kindP L s) s).2 0:=fun s=>by
       unfold unitsP
       split
       · exact (ate_num s).weak (by omega)
       · exact ate_size s
      have u2:∀ k s,Ate L s (unitsP L k s).2 0:=fun k s=>by
       unfold unitsP
       split
       · exact (ate_num s).weak (by omega)
       · exact ate_size s
      exact (((((ate_on (kindP_lt hk)).trans (ate_name s.on)).trans (u2 (kindP L s) _)).trans (ate_must _ _)).weak (by omega)).then2 a
  · cases h;exact Ate2.refl _ _
theorem ate_idents:∀ {n:Nat}{acc:List Idn}{again:Bool}{s s':PS}{l:List Idn},identsL L n acc again s=some (l,s')→Ate2 L s s' acc.length l.length
 | 0,_,_,_,_,_,h=>by cases h
 | n + 1, acc, again, s, s', l, h => by
  rw[identsL]at h
  split at h
  · have a:=ate_idents h
    simp only[List.length_append,List.length_cons,List.length_nil]at a
    exact (((ate_name s).trans (ate_take _ _)).weak (by omega)).then2 a
  · cases h;exact Ate2.refl _ _
theorem ate_vars:∀ {n:Nat}{acc:List Idn}{s s':PS}{l:List Idn},varsL L n acc s=some (l,s')→Ate2 L s s' acc.length l.length
 | 0,_,_,_,_,h=>by cases h
 | n + 1, acc, s, s', l, h => by
  rw[varsL]at h
  split at h
  · rename_i hb
    have a:=ate_vars h
    simp only[List.length_append,List.length_cons,List.length_nil]at a
    exact ((((isP_must hb).trans (ate_name s.on)).trans (ate_must _ _)).weak (by omega)).then2 a
  · cases h;exact Ate2.refl _ _
theorem proc_ok (hN:NumsOK L){n:Nat}{s s':PS}{p:Prc}(h:procP branP L n s=some (p,s')):Ate L s s' (szP p)∧(s'.c=0→WFss p.body):=by
 unfold procP at h
 simp only[Option.bind_eq_some_iff,Option.map_eq_some_iff]at h
 obtain⟨⟨a,s1⟩,h1,⟨b,s2⟩,h2,⟨c,s3⟩,h3,h4⟩:=h
 cases h4
 have ka:Ate L (mustS L (nameS L s) (b1 40)) s1 a.length:=by
  unfold paramsP at h1
  split at h1
  · cases h1;exact Ate.refl _
  · exact (ate_idents h1).one
 have kc:=((ate_st n).2.1 _ _ _ _ _ _ h3).one
 have tl:=(ate_must (L:=L) s3 tEnd).trans (ate_must _ tSemi)
 refine⟨(((((((((ate_name s).trans (ate_must _ _)).trans ka).trans (ate_must _ _)).trans (ate_must _ _)).trans (ate_vars h2).one).trans (ate_must _ _)).trans kc).trans tl).weak (by simp only[szP];omega),fun h0=>(st_wf hN n).2.1 _ _ _ _ _ _ h3 (tl.code h0) (by simp only[WFss])⟩
theorem procs_ok (hN:NumsOK L):∀ {n:Nat}{acc:List Prc}{s s':PS}{l:List Prc},procsL branP L n acc s=some (l,s')→Ate2 L s s' (szPs acc) (szPs l)∧(s'.c=0→(∀ p∈acc,WFss p.body)→∀ p∈l,WFss p.body)
 | 0,_,_,_,_,h=>by cases h
 | n + 1, acc, s, s', l, h => by
  rw[procsL]at h
  split at h
  · rename_i hb
    simp only[Option.bind_eq_some_iff]at h
    obtain⟨⟨p,s1⟩,h1,h2⟩:=h
    have a:=procs_ok hN h2
    have b:=proc_ok hN h1
    rw[szPs_snoc]at a
    exact⟨(((isP_must hb).trans b.1).weak (by dsimp only;omega)).then2 a.1,fun h0 ha=>a.2 h0 (all_snoc ha (b.2 (a.1.code h0)))⟩
  · cases h;exact⟨Ate2.refl _ _,fun _ h=>h⟩
theorem src_ok (hN:NumsOK L){n:Nat}{S:Src}(h:srcP branP L n=some (.inl S)):SrcOK S L.length:=by
 simp only[srcP,Option.bind_eq_some_iff,Option.map_eq_some_iff]at h
 obtain⟨⟨ds,s1⟩,hx1,⟨ps,s2⟩,hx2,⟨cl,s3⟩,hx3,⟨bd,s4⟩,hx4,hx5⟩:=h
 split at hx5
 · rename_i h0
   cases hx5
   have ke:Ate L (mustS L (mustS L s4 tEnd) (b1 46)) (endS L (mustS L (mustS L s4 tEnd) (b1 46))) 0:=by
    unfold endS
    split
    · exact Ate.refl _
    · exact ate_fault _ (by omega) 0
   have k4:=((ate_must (L:=L) s4 tEnd).trans (ate_must _ (b1 46))).trans ke
   have c4:s4.c=0:=k4.code h0
   have kb:=((ate_st (L:=L) n).2.1 _ _ _ _ _ _ hx4).one
   have kc:Ate L s2 s3 cl.length∧(∀ i∈cl,ItmOK i):=by
    unfold claimsP at hx3
    split at hx3
    · rename_i hb
      simp only[Option.map_eq_some_iff]at hx3
      obtain⟨⟨q,s5⟩,h1,h2⟩:=hx3
      cases h2
      exact⟨(((isP_must hb).trans (ate_items h1).one).trans (ate_must _ _)).weak (by dsimp only;omega),itemsL_wf hN h1 nil_all⟩
    · cases hx3;exact⟨Ate.refl _,nil_all⟩
   have kp:=procs_ok hN hx2
   have kd:=ate_decls hx1
   have c3:=kb.code c4
   have c3':=(ate_must (L:=L) s3 tBegin).code c3
   have c2:=kc.1.code c3'
   have c1:=kp.1.code c2
   have all:=((((((((ate_must (L:=L) ⟨0,0,0⟩ tProgram).trans (ate_name _)).trans (ate_must _ tSemi)).trans kd.one).trans kp.1.one).trans kc.1).trans (ate_must _ tBegin)).trans kb).trans k4
   have e1:=all.size h0
   have e2:=all.place
   simp only[Nat.add_zero]at e1 e2
   exact⟨decls_ok hN hx1 c1 nil_all,kp.2 c2 nil_all,kc.2,(st_wf hN n).2.1 _ _ _ _ _ _ hx4 c4 (by simp only[WFss]),by dsimp only;omega⟩
 · cases hx5
theorem parse_ok {src:List UInt8}{n:Nat}{S:Src}(h:parseP branP src n=some (.inl S)):SrcOK S (src.length+1):=by
 unfold parseP at h
 simp only[Option.bind_eq_some_iff]at h
 obtain⟨q,hlex,hx⟩:=h
 cases q with
 | inr f=>simp at hx
 | inl L =>
  have l:=lexFrom_len hlex
  simp at l
  have k:=src_ok (lexFrom_nums nil_all hlex) hx
  exact⟨k.decls,k.procs,k.claims,k.body,by have:=k.size;omega⟩
end Go.Vm.Parse
namespace Go.Vm.Scope
open Go Go.Proofs Go.Vm.Parse
def endF:Int→List Nm→Int
 | a,[]=>a
 | a,m :: l=>if clsP m.kind=3 then endF (a+max m.size 1) l else endF a l
def regL:Nat→List (ByteArray × Nm)→List (ByteArray × Int)
 | _,[]=>[]
 | n,(y,m) :: l=>if m.kind=3 then (y,(n:Int)) :: regL (n+1) l else regL n l
def numF:Nat→List ByteArray→List (ByteArray × Int)
 | _,[]=>[]
 | k,x :: l=>(x,(k:Int)) :: numF (k+1) l
theorem ofF_snoc (k:Int)(m:Nm)(v:Int):∀ l:List (Nm × Int),ofF k (l++[(m,v)])=ofF k l++(if m.kind=k then [v]else [])
 | []=>by simp[ofF]
 | (a, b) :: l => by
  simp only[List.cons_append,ofF,ofF_snoc k m v l]
  split<;>simp
theorem celF_snoc (m:Nm):∀ (a:Int)(l:List Nm),celF a (l++[m])=celF a l++(if clsP m.kind=3 then [⟨endF a l,m.size⟩]else [])
 | a,[]=>by simp[celF,endF]
 | a, b :: l => by
  simp only[List.cons_append,celF,endF]
  split
  · rw[celF_snoc m _ l];simp
  · rw[celF_snoc m _ l]
theorem endF_snoc (m:Nm):∀ (a:Int)(l:List Nm),endF a (l++[m])=if clsP m.kind=3 then endF a l+max m.size 1 else endF a l
 | a,[]=>by simp[endF]
 | a, b :: l => by
  simp only[List.cons_append,endF]
  split
  · rw[endF_snoc m _ l]
  · rw[endF_snoc m _ l]
theorem regL_snoc (y:ByteArray)(m:Nm):∀ (n:Nat)(l:List (ByteArray × Nm)),regL n (l++[(y,m)])=regL n l++(if m.kind=3 then [(y,((n+(regL n l).length:Nat):Int))]else [])
 | n,[]=>by simp[regL]
 | n, (a, b) :: l => by
  simp only[List.cons_append,regL]
  split
  · rw[regL_snoc y m (n+1) l]
    simp only[List.cons_append,List.length_cons]
    rw[show n+1+(regL (n+1) l).length=n+((regL (n+1) l).length+1) by omega]
  · rw[regL_snoc y m n l]
theorem numF_snoc (x:ByteArray):∀ (k:Nat)(l:List ByteArray),numF k (l++[x])=numF k l++[(x,((k+l.length:Nat):Int))]
 | k,[]=>by simp[numF]
 | k, a :: l => by
  simp only[List.cons_append,numF,numF_snoc x (k+1) l,List.length_cons]
  rw[show k+1+l.length=k+(l.length+1) by omega]
theorem numF_len:∀ (k:Nat)(l:List ByteArray),(numF k l).length=l.length
 | _,[]=>rfl
 | k,a :: l=>by simp only[numF,List.length_cons,numF_len (k+1) l]
theorem some_map (o:Option Nat)(f:Nat→Int):(o.map f).isSome=o.isSome:=by cases o<;>rfl
theorem find_num (x:ByteArray):∀ (k:Nat)(l:List ByteArray),findP x (numF k l)=Option.map (fun n:Nat=>(n:Int)) (idxF x k l)
 | _,[]=>rfl
 | k, a :: l => by
  simp only[numF,findP,idxF]
  split
  · rfl
  · exact find_num x (k+1) l
theorem find_zip (x:ByteArray):∀ (l:List ByteArray)(ms:List Nm),ms.length=l.length→(findP x (l.zip ms)).isSome=hasP l x
 | [],_,_=>rfl
 | a :: l,[],h=>by cases h
 | a :: l, m :: ms, h => by
  have ih:=find_zip x l ms (by simpa using h)
  simp only[List.zip_cons_cons,findP]
  unfold hasP at ih ⊢
  simp only[List.any_cons]
  by_cases ha:a=x
  · simp[ha]
  · simp[ha,ih]
theorem idx_has (x:ByteArray):∀ (k:Nat)(l:List ByteArray),(idxF x k l).isSome=hasP l x
 | _,[]=>rfl
 | k, a :: l => by
  have ih:=idx_has x (k+1) l
  simp only[idxF]
  unfold hasP at ih ⊢
  simp only[List.any_cons]
  by_cases ha:a=x
  · simp[ha]
  · simp[ha,ih]
structure Agree (T:Tab)(R:RT):Prop where
 n1:R.means.length=R.names.length
 n2:R.values.length=R.names.length
 n3:R.heads.length=R.procs.length
 n4:R.locals.length=R.procs.length
 a1:T.names=R.names.zip R.means
 a2:T.totals=ofF 1 (R.means.zip R.values)
 a3:T.semas=ofF 2 (R.means.zip R.values)
 a4:T.cells=celF 0 R.means
 a5:T.words=endF 0 R.means
 a6:T.regions=regL 0 (R.names.zip R.means)
 c1:T.totals.length=cntP 1 R.means
 c2:T.semas.length=cntP 2 R.means
 c3:T.cells.length=cntP 3 R.means
 a7:T.procs=numF 1 R.procs
 a8:T.locals=[] :: R.locals.map (numF 0)
 a9:T.params=0 :: R.heads
 sz:∀ m∈R.means,0≤m.size∧m.size≤64
 l3:∀ l∈R.locals,l.length≤8
theorem agree0:Agree tab0 rt0 :=
 ⟨rfl,rfl,rfl,rfl,rfl,rfl,rfl,rfl,rfl,rfl,rfl,rfl,rfl,rfl,rfl,rfl,by intro m h;exact absurd h (List.not_mem_nil),by intro l h;exact absurd h (List.not_mem_nil)⟩
theorem cntP_3 (k:Int)(h:clsP k=3)(l:List Nm):cntP k l=cntP 3 l:=by
 have e:clsP 3=3:=rfl
 induction l with
 | nil=>rfl
 | cons a l ih=>simp only[cntP,h,e,ih]
theorem Agree.decl {T:Tab}{R:RT}(h:Agree T R){d:Dcl}(hk:1≤d.kind∧d.kind≤4)(hn:3≤d.kind→0≤d.n∧d.n≤64) :
  match intoP T d,(if manyP R d then Except.error (16,d.at_)else if unitsB d then Except.error (24,d.at_)else Except.ok (rdclT R d):Except (Int × Int) RT)with
  | .error c,.error e=>e=(c,d.at_)
  | .ok T',.ok R'=>Agree T' R'∧R'.procs=R.procs∧T'.procs=T.procs
  | _,_=>False:=by
 have zip1:(R.names++[d.name]).zip (R.means++[⟨d.kind,cntP d.kind R.means,if clsP d.kind=3 then d.n else 0⟩])=R.names.zip R.means++[(d.name,⟨d.kind,cntP d.kind R.means,if clsP d.kind=3 then d.n else 0⟩)]:=by
  rw[List.zip_append h.n1.symm];rfl
 have zip2:(R.means++[(⟨d.kind,cntP d.kind R.means,if clsP d.kind=3 then d.n else 0⟩:Nm)]).zip (R.values++[d.n])=R.means.zip R.values++[(⟨d.kind,cntP d.kind R.means,if clsP d.kind=3 then d.n else 0⟩,d.n)]:=by
  rw[List.zip_append (h.n1.trans h.n2.symm)];rfl
 have mk:∀ T':Tab,T'.names=T.names++[(d.name,⟨d.kind,cntP d.kind R.means,if clsP d.kind=3 then d.n else 0⟩)]→T'.totals=T.totals++(if d.kind=1 then [d.n]else [])→T'.semas=T.semas++(if d.kind=2 then [d.n]else []) →
   T'.cells=T.cells++(if clsP d.kind=3 then [⟨T.words,if clsP d.kind=3 then d.n else 0⟩]else [])→T'.words=(if clsP d.kind=3 then T.words+max (if clsP d.kind=3 then d.n else 0) 1 else T.words)→T'.regions=T.regions++(if d.kind=3 then [(d.name,(T.regions.length:Int))]else []) →
   T'.procs=T.procs→T'.locals=T.locals→T'.params=T.params→Agree T' (rdclT R d)∧(rdclT R d).procs=R.procs∧T'.procs=T.procs:=by
  intro T' e1 e2 e3 e4 e5 e6 e7 e8 e9
  have k1:clsP d.kind=clsP 1↔d.kind=1:=by unfold clsP;split<;>omega
  have k2:clsP d.kind=clsP 2↔d.kind=2:=by unfold clsP;split<;>omega
  have k3:clsP d.kind=clsP 3↔clsP d.kind=3:=Iff.rfl
  refine⟨⟨by simp[rdclT,h.n1],by simp[rdclT,h.n2],h.n3,h.n4,?_,?_,?_,?_,?_,?_,?_,?_,?_,?_,?_,?_,?_,h.l3⟩,rfl,e7⟩
  · simp only[rdclT];rw[e1,h.a1,zip1]
  · simp only[rdclT];rw[e2,h.a2,zip2,ofF_snoc]
  · simp only[rdclT];rw[e3,h.a3,zip2,ofF_snoc]
  · simp only[rdclT];rw[e4,h.a4,celF_snoc,h.a5]
  · simp only[rdclT];rw[e5,endF_snoc,h.a5]
  · simp only[rdclT];rw[e6,h.a6,zip1,regL_snoc,Nat.zero_add]
  · simp only[rdclT];rw[e2,cntP_snoc,List.length_append,h.c1]
    simp only[eq_comm (a:=clsP d.kind)]at *
    by_cases q:d.kind=1
    · rw[if_pos q,if_pos (by rw[q])];rfl
    · rw[if_neg q,if_neg (fun e=>q (k1.1 e))];rfl
  · simp only[rdclT];rw[e3,cntP_snoc,List.length_append,h.c2]
    by_cases q:d.kind=2
    · rw[if_pos q,if_pos (by rw[q])];rfl
    · rw[if_neg q,if_neg (fun e=>q (k2.1 e))];rfl
  · simp only[rdclT];rw[e4,cntP_snoc,List.length_append,h.c3]
    by_cases q:clsP d.kind=3
    · rw[if_pos q,if_pos (k3.2 q)];rfl
    · rw[if_neg q,if_neg (fun e=>q (k3.1 e))];rfl
  · rw[e7];exact h.a7
  · rw[e8];exact h.a8
  · rw[e9];exact h.a9
  · intro m hm
    rcases List.mem_append.1 hm with hm | hm
    · exact h.sz m hm
    · rw[List.mem_singleton.1 hm]
      dsimp only
      split
      · rename_i hc
        exact hn (by unfold clsP at hc;split at hc<;>omega)
      · omega
 unfold intoP
 have k1:d.kind=1→clsP d.kind=1:=fun e=>by rw[e];rfl
 have k2:d.kind=2→clsP d.kind=2:=fun e=>by rw[e];rfl
 by_cases h1:d.kind=1
 · have hc:=k1 h1
   have hq:T.totals.length=cntP d.kind R.means:=by rw[h1];exact h.c1
   rw[if_pos h1]
   by_cases q1:6≤T.totals.length
   · rw[if_pos q1,if_pos (show manyP R d from .inl ⟨h1,by omega⟩)]
   · rw[if_neg q1,if_neg (show ¬manyP R d from fun e=>by unfold manyP at e;omega)]
     by_cases q2:d.n<1∨1000<d.n
     · rw[if_pos q2,if_pos (show unitsB d from .inl ⟨h1,q2⟩)]
     · rw[if_neg q2,if_neg (show ¬unitsB d from fun e=>by unfold unitsB at e;omega)]
       refine mk _ ?_ ?_ ?_ ?_ ?_ ?_ rfl rfl rfl
       · rw[if_neg (by omega),← hq]
       · rw[if_pos h1]
       · rw[if_neg (by omega),List.append_nil]
       · rw[if_neg (by omega),List.append_nil]
       · rw[if_neg (by omega)]
       · rw[if_neg (by omega),List.append_nil]
 rw[if_neg h1]
 by_cases h2:d.kind=2
 · have hc:=k2 h2
   have hq:T.semas.length=cntP d.kind R.means:=by rw[h2];exact h.c2
   rw[if_pos h2]
   by_cases q1:8≤T.semas.length
   · rw[if_pos q1,if_pos (show manyP R d from .inr (.inl ⟨h2,by omega⟩))]
   · rw[if_neg q1,if_neg (show ¬manyP R d from fun e=>by unfold manyP at e;omega)]
     by_cases q2:d.n<0∨1000<d.n
     · rw[if_pos q2,if_pos (show unitsB d from .inr ⟨h2,q2⟩)]
     · rw[if_neg q2,if_neg (show ¬unitsB d from fun e=>by unfold unitsB at e;omega)]
       refine mk _ ?_ ?_ ?_ ?_ ?_ ?_ rfl rfl rfl
       · rw[if_neg (by omega),← hq]
       · rw[if_neg (by omega),List.append_nil]
       · rw[if_pos h2]
       · rw[if_neg (by omega),List.append_nil]
       · rw[if_neg (by omega)]
       · rw[if_neg (by omega),List.append_nil]
 rw[if_neg h2]
 have hc:clsP d.kind=3:=by unfold clsP;split<;>omega
 have hq:T.cells.length=cntP d.kind R.means:=by rw[cntP_3 _ hc];exact h.c3
 by_cases q1:16≤T.cells.length
 · rw[if_pos q1,if_pos (show manyP R d from .inr (.inr ⟨hc,by omega⟩))]
 · rw[if_neg q1,if_neg (show ¬manyP R d from fun e=>by unfold manyP at e;omega),if_neg (show ¬unitsB d from fun e=>by unfold unitsB at e;omega)]
   by_cases h3:d.kind=3
   · rw[if_pos h3]
     refine mk _ ?_ ?_ ?_ ?_ ?_ ?_ rfl rfl rfl
     · simp only[intoV];rw[if_pos hc,← hq]
     · simp only[intoV];rw[if_neg h1,List.append_nil]
     · simp only[intoV];rw[if_neg h2,List.append_nil]
     · simp only[intoV];rw[if_pos hc,if_pos hc]
     · simp only[intoV];rw[if_pos hc,if_pos hc]
     · simp only[intoV];rw[if_pos h3]
   · rw[if_neg h3]
     refine mk _ ?_ ?_ ?_ ?_ ?_ ?_ rfl rfl rfl
     · simp only[intoV];rw[if_pos hc,← hq]
     · simp only[intoV];rw[if_neg h1,List.append_nil]
     · simp only[intoV];rw[if_neg h2,List.append_nil]
     · simp only[intoV];rw[if_pos hc,if_pos hc]
     · simp only[intoV];rw[if_pos hc,if_pos hc]
     · simp only[intoV];rw[if_neg h3,List.append_nil]
def Both (x:Except (Int × Int) Tab)(y:Except (Int × Int) RT):Prop:=match x,y with
 | .error e,.error e'=>e=e'
 | .ok T,.ok R=>Agree T R
 | _,_=>False
theorem known_has {T:Tab}{R:RT}(h:Agree T R)(x:ByteArray):knownP T x=(hasP R.names x || hasP R.procs x):=by
 unfold knownP
 rw[h.a1,find_zip x _ _ h.n1,h.a7,find_num,some_map,idx_has]
theorem both_decls:∀ (l:List Dcl){T:Tab}{R:RT},Agree T R→R.procs=[]→(∀ d∈l,DclOK d)→Both (declsB T l) (rdeclsB R l)∧(∀ R',rdeclsB R l = .ok R'→R'.procs=[])
 | [],T,R,h,hp,_=>⟨h,fun R' e=>by simp only[rdeclsB,Except.ok.injEq]at e;rw[← e];exact hp⟩
 | d :: l, T, R, h, hp, hd => by
  have ok:=hd d (by simp)
  have k:=known_has h d.name
  rw[hp]at k
  have k':knownP T d.name=hasP R.names d.name:=by rw[k];simp[hasP]
  rw[declsB,rdeclsB]
  unfold rdclB
  rw[k']
  by_cases c:hasP R.names d.name=true
  · rw[if_pos c,if_pos c]
    exact⟨rfl,fun R' e=>by cases e⟩
  · rw[if_neg c,if_neg c]
    have st:=h.decl (d:=d) ⟨ok.k1,ok.k4⟩ (fun hh=>⟨ok.n0,ok.n2 hh⟩)
    generalize intoP T d=x at st ⊢
    generalize (if manyP R d then .error (16,d.at_)else if unitsB d then .error (24,d.at_)else .ok (rdclT R d):Except (Int × Int) RT)=y at st ⊢
    cases x with
    | error c =>
     cases y with
     | error e=>simp only at st;subst st;exact⟨rfl,fun R' e=>by cases e⟩
     | ok R'=>exact st.elim
    | ok T' =>
     cases y with
     | error e=>exact st.elim
     | ok R'=>exact both_decls l st.1 (st.2.1.trans hp) (fun d hd'=>hd d (by simp[hd']))
theorem both_locals (np:Nat):∀ (l:List Idn)(i:Nat)(a:List ByteArray),a.length=i→i≤8→match localsP np (numF 0 a) i l,rlocB np a i l with
  | .error e,.error e'=>e=e'
  | .ok x,.ok y=>x=numF 0 y∧y.length≤8
  | _,_=>False
 | [],i,a,ha,h8=>by simp only[localsP,rlocB];exact⟨trivial,by omega⟩
 | x :: l, i, a, ha, h8 => by
  rw[localsP,rlocB,find_num,some_map,idx_has]
  by_cases c:hasP a x.name=true
  · rw[if_pos c,if_pos c]
  · rw[if_neg c,if_neg c]
    by_cases q:(i<np∧4≤i)∨8≤i
    · rw[if_pos q,if_pos q]
    · rw[if_neg q,if_neg q]
      have e:numF 0 a++[(x.name,(i:Int))]=numF 0 (a++[x.name]):=by rw[numF_snoc,Nat.zero_add,ha]
      rw[e]
      exact both_locals np l (i+1) (a++[x.name]) (by simp[ha]) (by omega)
theorem both_procs:∀ (l:List Prc){T:Tab}{R:RT},Agree T R→Both (procsB procB T l) (rprocsB R l)
 | [],T,R,h=>h
 | p :: l, T, R, h => by
  rw[procsB,rprocsB]
  unfold procB rprcB
  have k:=known_has h p.name
  have kp:T.procs.length=R.procs.length:=by rw[h.a7,numF_len]
  by_cases c:hasP R.names p.name=true∨hasP R.procs p.name=true
  · have c':knownP T p.name=true:=by rw[k];simpa using c
    rw[if_pos c',if_pos c]
    exact rfl
  · have c':¬knownP T p.name=true:=by rw[k];simpa using c
    rw[if_neg c',if_neg c,kp]
    by_cases q:12≤R.procs.length
    · rw[if_pos q,if_pos q];exact rfl
    · rw[if_neg q,if_neg q]
      have bl:=both_locals p.params.length (p.params++p.vars) 0 [] rfl (Nat.zero_le _)
      simp only[numF]at bl
      generalize localsP p.params.length [] 0 (p.params++p.vars)=x at bl ⊢
      generalize rlocB p.params.length [] 0 (p.params++p.vars)=y at bl ⊢
      cases x with
      | error e =>
       cases y with
       | error e'=>simp only at bl;subst bl;exact rfl
       | ok y=>exact bl.elim
      | ok x =>
       cases y with
       | error e=>exact bl.elim
       | ok y =>
        obtain⟨rfl,y8⟩:=bl
        refine both_procs l (T:=procT T p (numF 0 y)) (R:=rprcT R p y) ⟨h.n1,h.n2,by simp[rprcT,h.n3],by simp[rprcT,h.n4],h.a1,h.a2,h.a3,h.a4,h.a5,h.a6,h.c1,h.c2,h.c3,?_,?_,?_,h.sz,?_⟩
        · simp only[procT,rprcT]
          rw[h.a7,numF_snoc,h.a8]
          simp only[List.length_cons,List.length_map]
          rw[h.n4,show R.procs.length+1=1+R.procs.length by omega]
        · simp only[procT,rprcT]
          rw[h.a8]
          simp
        · simp only[procT,rprcT]
          rw[h.a9]
          simp
        · intro l hl
          rcases List.mem_append.1 hl with hl | hl
          · exact h.l3 l hl
          · rw[List.mem_singleton.1 hl];exact y8
theorem both_build (s:Src)(hd:∀ d∈s.decls,DclOK d):Both (buildP procB s) (rbuildB s):=by
 unfold buildP rbuildB
 have b:=(both_decls s.decls agree0 rfl hd).1
 generalize declsB tab0 s.decls=x at b ⊢
 generalize rdeclsB rt0 s.decls=y at b ⊢
 cases x with
 | error e =>
  cases y with
  | error e'=>exact b
  | ok R=>exact b.elim
 | ok T =>
  cases y with
  | error e=>exact b.elim
  | ok R=>exact both_procs s.procs b
end Go.Vm.Scope
namespace Go.Vm.Typing
open Go Go.Proofs Go.Vm.Parse Go.Vm.Scope
abbrev Flt:=Int × Int
def isLoc (R:RT)(p:Int)(x:ByteArray):Bool:=(idxF x 0 (rlocalsAt R p)).isSome
def isPrc (R:RT)(x:ByteArray):Bool:=(idxF x 0 R.procs).isSome
def glob (R:RT)(x:ByteArray):Option Nm:=findP x (R.names.zip R.means)
structure At where
 p:Int
 ins:List ByteArray
 cond:ByteArray
def varB (R:RT)(c:At)(x:ByteArray)(at_:Int)(arr:Bool):Option Flt :=
 if isLoc R c.p x=true then (if arr=true then some (19,at_)else none)
 else match glob R x with
 | none=>if isPrc R x=true then some (19,at_)else some (18,at_)
 | some m =>
  if clsP m.kind≠3∨decide (0<m.size)≠arr then some (19,at_)
  else if m.kind=3∧hasP c.ins x=false then some (22,at_)
  else if c.cond≠ByteArray.empty∧c.cond≠x then some (23,at_)else none
def mustB (R:RT)(p:Int)(x:ByteArray)(at_ kind:Int):Option Flt :=
 if isLoc R p x=true then some (19,at_)
 else match glob R x with
 | some m=>if m.kind=kind then none else some (19,at_)
 | none=>if isPrc R x=true then (if kind = -2 then none else some (19,at_))else some (18,at_)
def prcOf (R:RT)(x:ByteArray):Int:=match idxF x 0 R.procs with
 | some n=>(n:Int)+1
 | none=>0
def tyP:Ex→Int
 | .mk kind _ _ op _ _=>if kind=2 then 2 else if (kind=5∨kind=6)∧15≤op∧op≤23 then 2 else 1
def exAt:Ex→Int
 | .mk _ at_ _ _ _ _=>at_
def opTy (op:Int):Int:=if op=23∨op=21∨op=22 then 2 else 1
def typB (k:Int)(x:Ex):Option Flt:=if tyP x=k then none else some (21,exAt x)
mutual
def exB (R:RT)(c:At):Ex→Option Flt
 | .mk kind at_ _ op x sub =>
  if kind=3 then varB R c x at_ false
  else if kind=4 then (varB R c x at_ true).or (wantB R c 1 sub)
  else if kind=5∨kind=6 then wantB R c (opTy op) sub
  else none
def wantB (R:RT)(c:At)(k:Int):List Ex→Option Flt
 | []=>none
 | x :: l=>((exB R c x).or (typB k x)).or (wantB R c k l)
end
def callT (R:RT)(c:At)(x:ByteArray)(at_:Int)(args:List Ex):Option Flt :=
 (mustB R c.p x at_ (-2)).or ((if (args.length:Int)=rheadAt R (prcOf R x)then none else some (20,at_)).or (wantB R c 1 args))
def itemB (R:RT)(p:Int)(seen:List Itm)(x:Itm):Option Flt :=
 (if 6≤seen.length then some (16,x.at_)else none).or ((mustB R p x.name x.at_ 1).or ((if (seen.any fun y=>decide (y.name=x.name))=true then some (17,x.at_)else none).or (if x.n<1∨1000<x.n then some (24,x.at_)else none)))
def itemsB (R:RT)(p:Int):List Itm→List Itm→Option Flt
 | _,[]=>none
 | seen,x :: l=>(itemB R p seen x).or (itemsB R p (seen++[x]) l)
def braB (R:RT)(c:At)(i:Nat)(b:Bra):Option Flt :=
 (if 8≤i then some (16,b.at_)else none).or ((callT R c b.name b.at_ b.args).or (itemsB R c.p [] b.claims))
def brasB (R:RT)(c:At):Nat→List Bra→Option Flt
 | _,[]=>none
 | i,b :: l=>(braB R c i b).or (brasB R c (i+1) l)
mutual
def stB (R:RT)(p:Int)(ins:List ByteArray):Stm→Option Flt
 | .mk kind at_ x e body els br items =>
  if kind=2∨kind=13 then (varB R ⟨p,ins,ByteArray.empty⟩ x at_ false).or (wantB R ⟨p,ins,ByteArray.empty⟩ 1 e)
  else if kind=3∨kind=14 then (varB R ⟨p,ins,ByteArray.empty⟩ x at_ true).or (wantB R ⟨p,ins,ByteArray.empty⟩ 1 e)
  else if kind=15 then wantB R ⟨p,ins,ByteArray.empty⟩ 1 e
  else if kind=4∨kind=5 then (wantB R ⟨p,ins,ByteArray.empty⟩ 2 e).or ((stsB R p ins body).or (stsB R p ins els))
  else if kind=6 then callT R ⟨p,ins,ByteArray.empty⟩ x at_ e
  else if kind=7 then brasB R ⟨p,ins,ByteArray.empty⟩ 0 br
  else if kind=8∨kind=9 then mustB R p x at_ 2
  else if kind=10 then (mustB R p x at_ 3).or ((if hasP ins x=true then some (22,at_)else none).or ((wantB R ⟨p,ins++[x],x⟩ 2 e).or (stsB R p (ins++[x]) body)))
  else if kind=11∨kind=12 then itemsB R p [] items
  else none
def stsB (R:RT)(p:Int)(ins:List ByteArray):List Stm→Option Flt
 | []=>none
 | s :: l=>(stB R p ins s).or (stsB R p ins l)
end
def prcsB (R:RT):Nat→List Prc→Option Flt
 | _,[]=>none
 | i,q :: l=>(stsB R ((i:Int)+1) [] q.body).or (prcsB R (i+1) l)
def checkB (R:RT)(s:Src):Option Flt:=(prcsB R 0 s.procs).or ((itemsB R 0 [] s.claims).or (stsB R 0 [] s.body))
structure FOK (f:Option Flt):Prop where
 ne:∀ q,f=some q→q.1≠0
theorem FOK.none:FOK none:=⟨fun _ h=>by cases h⟩
theorem FOK.some {c a:Int}(h:c≠0):FOK (some (c,a)):=⟨fun q e=>by cases e;exact h⟩
theorem FOK.or {f g:Option Flt}(h:FOK f)(k:FOK g):FOK (f.or g):=by
 cases f with
 | none=>simpa using k
 | some q=>simpa using h
structure RGood (R:RT):Prop where
 apart:∀ x,(glob R x).isSome=true→isPrc R x=false
 kinds:∀ m∈R.means,1≤m.kind∧m.kind≤4
theorem findP_mem {β:Type}(x:ByteArray){b:β}:∀ {l:List (ByteArray × β)},findP x l=some b→(x,b)∈l
 | [],h=>by cases h
 | (y, c) :: l, h => by
  rw[findP]at h
  split at h
  · rename_i e
    simp only at e h
    cases h
    subst e
    exact List.mem_cons_self
  · exact List.mem_cons_of_mem _ (findP_mem x h)
theorem RGood.kind {R:RT}(h:RGood R){x:ByteArray}{m:Nm}(e:glob R x=some m):1≤m.kind∧m.kind≤4 :=
 h.kinds m (List.of_mem_zip (findP_mem x e)).2
end Go.Vm.Typing
namespace Go.Vm
open Go Go.Proofs
variable {P:Program}
theorem equal_int {t:TypeId}{k:IntKind} {sg}(h:P.underlying t=some (.int sg))(d:Nat)(a c:Int):pureRun P (Op.equalIn (d+1) t (.int k a) (.int k c))=some (a == c):=by
 unfold Op.equalIn
 rw[pureRun_bind _ _ _ (pureRun_underlying h)]
 simp
theorem equal_string {t:TypeId}(h:P.underlying t=some .string)(d:Nat)(a c:ByteArray):pureRun P (Op.equalIn (d+1) t (.string a) (.string c))=some (a == c):=by
 unfold Op.equalIn
 rw[pureRun_bind _ _ _ (pureRun_underlying h)]
 rfl
theorem part_one {t:TypeId}{cs:Array Value}{off:Nat}{v:Value}{d:TypeDesc}(h:P.underlying t=some d)(hd:(match d with | .struct _ | .array _ _=>true | _=>false)=false)(hv:cs[off]? = some v):pureRun P (part t cs off)=some v:=by
 unfold part
 have e:pureRun P (isAgg t)=some false:=by
  unfold isAgg
  rw[pureRun_bind _ _ _ (pureRun_underlying h)]
  cases d<;>first | rfl | cases hd
 rw[pureRun_bind _ _ _ e]
 simp[hv]
def cellEq (d:Option TypeDesc):Option Value→Option Value→Option Bool
 | some (.int k a),some (.int k' b)=>match d with | some (.int _)=>if k=k' then some (decide (a=b))else none | _=>none
 | some (.string a),some (.string b)=>match d with | some .string=>some (decide (a=b)) | _=>none
 | _,_=>none
def fieldsEq (P:Program)(xs ys:List Value):List Field→Option Bool
 | []=>some true
 | f :: fs => if f.name ≠ "_" then (match cellEq (P.underlying f.type) xs[f.offset]? ys[f.offset]? with
  | some true=>fieldsEq P xs ys fs
  | some false=>some false
  | none=>none)else fieldsEq P xs ys fs
theorem cell_eq {t:TypeId}{xs ys:Array Value}{off:Nat}{r:Bool}(h:cellEq (P.underlying t) xs[off]? ys[off]? = some r)(d:Nat) :
  ∃ v u,pureRun P (part t xs off)=some v∧pureRun P (part t ys off)=some u∧pureRun P (Op.equalIn (d+1) t v u)=some r:=by
 unfold cellEq at h
 split at h
 · rename_i k a k' b h1 h2
   split at h
   · rename_i d1 s hu
     split at h
     · rename_i hk
       subst hk
       cases h
       refine⟨_,_,part_one hu rfl h1,part_one hu rfl h2,?_⟩
       rw[equal_int hu]
       rfl
     · cases h
   · cases h
 · rename_i a b h1 h2
   split at h
   · rename_i hu
     cases h
     refine⟨_,_,part_one hu rfl h1,part_one hu rfl h2,?_⟩
     rw[equal_string hu]
     congr 1
     obtain⟨x⟩:=a
     obtain⟨y⟩:=b
     show (x == y)=_
     by_cases h:x=y
     · subst h;simp
     · rw[decide_eq_false (fun e=>h (by cases e;rfl))]
       simpa using h
   · cases h
 · cases h
theorem loop_eq {xs ys:Array Value}{d:Nat}:∀ {fs:List Field}{r:Bool},fieldsEq P xs.toList ys.toList fs=some r →
  pureRun P (forIn fs ((none,()):Option Bool × Unit) fun f __s =>
      if f.name ≠ "_" then do
       let __do_lift ← part f.type xs f.offset
       let __do_lift_1 ← part f.type ys f.offset
       let __do_lift ← Op.equalIn (d+1) f.type __do_lift __do_lift_1
       if (!__do_lift)=true then pure (ForInStep.done (some false,()))else pure (ForInStep.yield (none,()))
      else pure (ForInStep.yield (none,())))=some (if r=true then (none,())else (some false,()))
 | [], r, h => by
  cases h
  rfl
 | f :: fs, r, h => by
  rw[List.forIn_cons]
  simp only[fieldsEq]at h
  split at h
  · rename_i hn
    rw[if_pos hn]
    split at h
    · rename_i hc
      simp only[Array.getElem?_toList]at hc
      obtain⟨v,u,h1,h2,h3⟩:=cell_eq hc d
      rw[pureRun_bind (a:=ForInStep.yield (none,()))]
      · exact loop_eq h
      · rw[pureRun_bind _ _ _ h1,pureRun_bind _ _ _ h2,pureRun_bind _ _ _ h3];rfl
    · rename_i hc
      simp only[Array.getElem?_toList]at hc
      cases h
      obtain⟨v,u,h1,h2,h3⟩:=cell_eq hc d
      rw[pureRun_bind (a:=ForInStep.done (some false,()))]
      · rfl
      · rw[pureRun_bind _ _ _ h1,pureRun_bind _ _ _ h2,pureRun_bind _ _ _ h3];rfl
    · cases h
  · rename_i hn
    rw[if_neg hn]
    rw[pureRun_bind (a:=ForInStep.yield (none,())) _ _ rfl]
    exact loop_eq h
theorem equal_struct {t:TypeId}{fs:List Field}(h:P.underlying t=some (.struct ⟨fs⟩))(hs:P.stoodInHeld t=false){xs ys:Array Value}{r:Bool}(he:fieldsEq P xs.toList ys.toList fs=some r):pureRun P (Op.equal t (.agg xs) (.agg ys))=some r:=by
 unfold Op.equal
 show pureRun P (Op.equalIn (9998+1+1) t (.agg xs) (.agg ys))=_
 unfold Op.equalIn
 rw[pureRun_bind _ _ _ (pureRun_underlying h)]
 simp only[]
 rw[pureRun_bind (a:=P) _ _ rfl]
 rw[if_neg (by rw[hs];simp)]
 rw[List.forIn_toArray,pureRun_bind _ _ _ (loop_eq he)]
 cases r<;>rfl
theorem bin_struct {t:TypeId}{x y:Operand}{fs:List Field}(h:P.underlying t=some (.struct ⟨fs⟩))(hs:P.stoodInHeld t=false)(hg:P.eqGuardType P.depth t=false){xs ys:List Value}{r:Bool}(hx:ground (.agg ⟨xs⟩)=true)(hy:ground (.agg ⟨ys⟩)=true)
  (he:fieldsEq P xs ys fs=some r):exBin P .eql t x y (.agg ⟨xs⟩) (.agg ⟨ys⟩)=some (.bool r)∧exBin P .neq t x y (.agg ⟨xs⟩) (.agg ⟨ys⟩)=some (.bool (!r)):=by
 have e:=equal_struct h hs (xs:=⟨xs⟩) (ys:=⟨ys⟩) he
 have g:∀ op,pureRun P (eqGuard op t x y (.agg ⟨xs⟩) (.agg ⟨ys⟩))=some ():=fun op=>by
  unfold eqGuard
  cases op<;>first | rfl | (simp only[];simp;rw[pureRun_bind (a:=P) _ _ rfl,pureRun_bind (a:=P) _ _ rfl,if_pos hg];rfl)
 constructor
 · simp only[exBin,hx,hy,Bool.and_self]
   rw[pureRun_bind _ _ _ (g .eql)]
   show ifGround (pureRun P (do pure (.bool (← Op.equal t (.agg ⟨xs⟩) (.agg ⟨ys⟩)))))=_
   rw[pureRun_bind _ _ _ e]
   rfl
 · simp only[exBin,hx,hy,Bool.and_self]
   rw[pureRun_bind _ _ _ (g .neq)]
   show ifGround (pureRun P (do pure (.bool (!(← Op.equal t (.agg ⟨xs⟩) (.agg ⟨ys⟩))))))=_
   rw[pureRun_bind _ _ _ e]
   rfl
end Go.Vm
namespace Go.Vm.Parse
open Go Go.Proofs
noncomputable def fsOf (t:TypeId):List Field:=match Tryz.prog.underlying t with | some (.struct ⟨fs⟩)=>fs | _=>[]
theorem und_fault:Tryz.prog.underlying 40=some (.struct ⟨fsOf 40⟩):=by kernel_rfl
theorem held_fault:Tryz.prog.stoodInHeld 40=false:=by kernel_rfl
theorem gt_fault:Tryz.prog.eqGuardType Tryz.prog.depth 40=false:=by kernel_rfl
theorem fe_fault (a b c d:Int):fieldsEq Tryz.prog [.int .i64 a,.int .i64 b] [.int .i64 c,.int .i64 d] (fsOf 40)=some (decide (a=c) && decide (b=d)):=by
 have e:fieldsEq Tryz.prog [.int .i64 a,.int .i64 b] [.int .i64 c,.int .i64 d] (fsOf 40)=(match some (decide (a=c))with | some true=>(match some (decide (b=d))with | some true=>some true | some false=>some false | none=>none) | some false=>some false | none=>none):=by kernel_rfl
 rw[e]
 cases decide (a=c)<;>cases decide (b=d)<;>rfl
theorem fault_eql (x y:Operand)(a b c d:Int):exBin Tryz.prog .eql 40 x y (.agg ⟨[.int .i64 a,.int .i64 b]⟩) (.agg ⟨[.int .i64 c,.int .i64 d]⟩)=some (.bool (decide (a=c) && decide (b=d))) :=
 (bin_struct und_fault held_fault gt_fault rfl rfl (fe_fault a b c d)).1
end Go.Vm.Parse
namespace Go.Vm.Scope
open Go Go.Proofs Go.Vm.Parse
attribute [local simp] repCells_succ writeAt rd_Fr toList_beq gpe gpn spe gse gsn ne_r0 ne_l0 le_s0 ne_r1 ne_l1 lt_s1 le_s1 ne_r2 ne_l2 lt_s2 le_s2 ne_r3 ne_l3 lt_s3 le_s3 ne_r4 ne_l4 lt_s4 le_s4 ne_r5 ne_l5 lt_s5 le_s5 ne_r6 ne_l6 lt_s6 le_s6 ne_r7 ne_l7 lt_s7 le_s7
theorem idx_shift (x:ByteArray)(j:Nat):∀ (k:Nat)(l:List ByteArray),idxF x (k+j) l=Option.map (fun n=>n+j) (idxF x k l)
 | _,[]=>rfl
 | k, a :: l => by
  simp only[idxF]
  split
  · rfl
  · rw[show k+j+1=k+1+j by omega];exact idx_shift x j (k+1) l
theorem inV_map (o:Option Nat)(d:Nat):inV (Option.map (fun n:Nat=>(n:Int)) (Option.map (fun n=>n+d) o))=rIdx o d:=by
 cases o<;>simp[inV,rIdx]
theorem inV_map0 (o:Option Nat):inV (Option.map (fun n:Nat=>(n:Int)) o)=rIdx o 0:=by
 cases o<;>simp[inV,rIdx]
section
variable {T:Tab} {R:RT} (h:Agree T R)
include h
theorem Agree.proc (x:ByteArray):inV (findP x T.procs)=rIdx (idxF x 0 R.procs) 1∧(findP x T.procs).isSome=(idxF x 0 R.procs).isSome:=by
 rw[h.a7,find_num,some_map,show (1:Nat)=0+1 from rfl,idx_shift,inV_map]
 exact⟨rfl,by cases idxF x 0 R.procs<;>rfl⟩
theorem Agree.locals (i:Int):localsAt T i=numF 0 (rlocalsAt R i):=by
 unfold localsAt rlocalsAt
 rw[h.a8]
 by_cases h0:i<0
 · rw[if_pos h0,if_pos (by omega)];rfl
 · rw[if_neg h0]
   by_cases h1:i<1
   · rw[if_pos h1,show i.toNat=0 by omega];rfl
   · rw[if_neg h1,show i.toNat=(i - 1).toNat+1 by omega,List.getElem?_cons_succ,List.getElem?_map]
     cases R.locals[(i - 1).toNat]?<;>rfl
theorem Agree.local_ (i:Int)(x:ByteArray):inV (findP x (localsAt T i))=rIdx (idxF x 0 (rlocalsAt R i)) 0∧(findP x (localsAt T i)).isSome=(idxF x 0 (rlocalsAt R i)).isSome:=by
 rw[h.locals,find_num,some_map,inV_map0]
 exact⟨rfl,rfl⟩
theorem Agree.params (i:Int):paramAt T i=rheadAt R i:=by
 unfold paramAt rheadAt
 rw[h.a9]
 by_cases h0:i<0
 · rw[if_pos h0,if_pos (by omega)]
 · rw[if_neg h0]
   by_cases h1:i<1
   · rw[if_pos h1,show i.toNat=0 by omega];rfl
   · rw[if_neg h1,show i.toNat=(i - 1).toNat+1 by omega,List.getElem?_cons_succ]
theorem Agree.size (i:Int):(localsAt T i).length=(rlocalsAt R i).length:=by rw[h.locals,numF_len]
end
section
variable {E:Hooks} (hE:Plain E)
include hE
end
end Go.Vm.Scope
namespace Go.Vm.Typing
open Go Go.Proofs Go.Vm.Parse Go.Vm.Scope
attribute [local simp] repCells_succ writeAt rd_Fr toList_beq gpe gpn spe gse gsn ne_r0 ne_l0 le_s0 ne_r1 ne_l1 lt_s1 le_s1 ne_r2 ne_l2 lt_s2 le_s2 ne_r3 ne_l3 lt_s3 le_s3 ne_r4 ne_l4 lt_s4 le_s4 ne_r5 ne_l5 lt_s5 le_s5 ne_r6 ne_l6 lt_s6 le_s6 ne_r7 ne_l7 lt_s7 le_s7
def fltV (q:Flt):Value := .iface 40 (.agg ⟨[.int .i64 q.1,.int .i64 q.2]⟩)
def outF (f:Option Flt):Out:=match f with
 | none => .val (.tuple #[])
 | some q => .pan (fltV q)
theorem iface_flt (v:Value)(H:Heap):ifaceA Tryz.prog 40 (some v) H=some (.val (.iface 40 v),H):=by simp[ifaceA]
section
variable {E:Hooks} (hE:Plain E)
include hE
theorem c_tfail (args:List Value)(H:Heap):(run Tryz.prog E).call 52 args H=callB Tryz.prog E Tryz.f52 args H:=call_B Tryz.func52 rfl (by decide +kernel) (hE.no _ rfl rfl) args H
theorem tfail_run (c a:Int)(H:Heap):(run Tryz.prog E).call 52 [.int .i64 c,.int .i64 a] H=some (.pan (fltV (c,a)),H):=by
 suffices key:Gives ((run Tryz.prog E).call 52 [.int .i64 c,.int .i64 a] H) fun o H'=>o = .pan (fltV (c,a))∧H'=H by
  obtain⟨o,H',e,rfl,rfl⟩:=key
  exact e
 rw[c_tfail hE,callB,bodyOf]
 simp[Tryz.f52,iface_flt,fltV]
theorem c_tmeans (args:List Value)(H:Heap):(run Tryz.prog E).call 78 args H=callB Tryz.prog E Tryz.f78 args H:=call_B Tryz.func78 rfl (by decide +kernel) (hE.no _ rfl rfl) args H
theorem c_tmust (args:List Value)(H:Heap):(run Tryz.prog E).call 53 args H=callB Tryz.prog E Tryz.f53 args H:=call_B Tryz.func53 rfl (by decide +kernel) (hE.no _ rfl rfl) args H
theorem c_tvar (args:List Value)(H:Heap):(run Tryz.prog E).call 63 args H=callB Tryz.prog E Tryz.f63 args H:=call_B Tryz.func63 rfl (by decide +kernel) (hE.no _ rfl rfl) args H
end
def InS (H:Heap)(S:Nat→Prop)(v:Value)(l:List ByteArray):Prop :=
 (∃ n,n=0∧v = .slice none n n∧l=[])∨∃ (id tl cap:Nat) (cs:List Value),v = .slice (some ⟨id,0,none⟩) l.length cap∧tl≤1∧S id∧H.get id = .row true tl 1 cs∧cs.length=cap∧l.length≤cap∧cs.take l.length=l.map Value.string
theorem InS.move {H H':Heap}{X S S':Nat→Prop}{v:Value}{l:List ByteArray}(h:InS H S v l)(k:Same X H H')(hs:∀ i,S i→i<H.n→S' i∧¬X i):InS H' S' v l:=by
 refine h.imp id ?_
 rintro⟨id,tl,cap,cs,h1,h2,h3,h4,h5,h6,h7⟩
 have:=hs id h3 (Heap.lt_of_get h4 (by simp))
 exact⟨id,tl,cap,cs,h1,h2,this.1,k.at h4 (by simp) this.2,h5,h6,h7⟩
def tk4 (tid:Nat)(p:Int)(v:Value)(cond:ByteArray):List Value:=[.pointer (some ⟨tid,0,none⟩),.int .i64 p,v,.string cond]
structure CT (H0 H:Heap)(tid cid:Nat)(c:At)(v:Value):Prop where
 kp:Same (fun i=>H0.n≤i) H0 H
 hc:H0.n≤cid
 obj:H.get cid = .row true 0 1 (tk4 tid c.p v c.cond)
 gi:InS H (fun i=>H0.n≤i∧i≠cid) v c.ins
 il:c.ins.length≤100000
theorem CT.keep {H0 H H':Heap}{tid cid:Nat}{c:At}{v:Value}(h:CT H0 H tid cid c v)(k:Same (fun _=>False) H H'):CT H0 H' tid cid c v :=
 ⟨h.kp.then k fun _ h=>h.elim,h.hc,k.at h.obj (by simp) fun h=>h,h.gi.move k fun i hi _=>⟨hi,fun h=>h⟩,h.il⟩
theorem rIdx_prc' (R:RT)(x:ByteArray):rIdx (idxF x 0 R.procs) 1 = .int .i64 (prcOf R x):=by unfold rIdx prcOf;cases idxF x 0 R.procs<;>rfl
def meansP (R:RT)(p:Int)(x:ByteArray):Nm × Int :=
 if isLoc R p x=true then (⟨0,0,0⟩,-1)else match glob R x with
 | some m=>(m,m.kind)
 | none=>if isPrc R x=true then (⟨0,prcOf R x,0⟩,-2)else (⟨0,0,0⟩,0)
theorem q_tmeans:quiet Tryz.prog (drawN Tryz.f78 0)=true:=by decide +kernel
theorem pl_tmeans:planOf Tryz.prog (drawN Tryz.f78 1)=some [none,some (0,1),some (0,1),none,none]:=by decide +kernel
section
variable {E:Hooks} (hE:Plain E)
include hE
variable {H0:Heap} {tid cid:Nat} {v:Value} {c:At} {col:Nat→Nat} {nid pid rid:Nat} {v1 v2 v3 v4 v5:Value} {T:Tab} (hT:RTab H0 col tid nid pid rid v1 v2 v3 v4 v5 T) {R:RT} (ha:Scope.Agree T R) (hok:TOK T)
include hT
omit hE in
theorem CT.tab {H:Heap}(h:CT H0 H tid cid c v):RTab H col tid nid pid rid v1 v2 v3 v4 v5 T:=hT.keep h.kp fun i hi=>hT.top i hi
include ha hok
theorem tmeans_run {H:Heap}(h:CT H0 H tid cid c v)(x:ByteArray):∃ H',(run Tryz.prog E).call 78 [.pointer (some ⟨cid,0,none⟩),.string x] H=some (.val (.tuple #[(meansP R c.p x).1.v,.int .i64 (meansP R c.p x).2]),H')∧Same (fun _=>False) H H':=by
 suffices key:Gives ((run Tryz.prog E).call 78 [.pointer (some ⟨cid,0,none⟩),.string x] H) fun o H'=>o = .val (.tuple #[(meansP R c.p x).1.v,.int .i64 (meansP R c.p x).2])∧Same (fun _=>False) H H' by
  obtain⟨o,H',e,rfl,k⟩:=key
  exact⟨H',e,k⟩
 have kp:Same (fun _=>False) H (H.push (.row true 0 1 [.int .i64 0,.int .i64 0,.int .i64 0])):=Same.push _ _ _
 have h1:=h.keep kp
 have g:=h1.obj
 simp only[tk4]at g
 have gr:(H.push (.row true 0 1 [.int .i64 0,.int .i64 0,.int .i64 0])).get H.n = .row true 0 1 [.int .i64 0,.int .i64 0,.int .i64 0]:=Heap.get_push_self _ _
 obtain⟨K1,e1,k1⟩:=local_run hE (CT.tab hT h1) c.p x (by have:=hok.l;have:=hok.q;omega)
 rw[(ha.local_ _ x).1,(ha.local_ _ x).2,show (idxF x 0 (rlocalsAt R c.p)).isSome=isLoc R c.p x from rfl]at e1
 obtain⟨i0,hi0⟩:∃ i,rIdx (idxF x 0 (rlocalsAt R c.p)) 0 = .int .i64 i:=⟨_,rfl⟩
 rw[hi0]at e1
 rw[c_tmeans hE,callB,bodyOf]
 simp[Tryz.f78]
 refine region_quiet (by exact q_tmeans) ?_
 generalize hHb:H.push (.row true 0 1 [.int .i64 0,.int .i64 0,.int .i64 0])=Hb at *
 have g1:=k1.at g (by simp) (fun h=>h)
 have gr1:=k1.at gr (by simp) (fun h=>h)
 have lr1:=Heap.lt_of_get gr1 (by simp)
 unfold meansP
 by_cases hl:isLoc R c.p x=true
 · simp[g,e1,hl,gr1,lr1]
   refine⟨rfl,(kp.trans k1).then_set lr1 (.inr (by omega)) _⟩
 · obtain⟨K2,e2,k2⟩:=global_run hE (CT.tab hT (h1.keep k1)) x
   rw[ha.a1,show findP x (R.names.zip R.means)=glob R x from rfl]at e2
   have kA:=k1.trans k2
   simp[g,e1,hl,g1,e2]
   cases hgl:glob R x with
   | some m =>
    rw[hgl]at e2
    have gr3:(K2.push (.row true 0 1 [.int .i64 m.kind,.int .i64 m.index,.int .i64 m.size])).get H.n=_:=(kA.then_push _).at gr (by simp) (fun h=>h)
    have gm3:(K2.push (.row true 0 1 [.int .i64 m.kind,.int .i64 m.index,.int .i64 m.size])).get K2.n = .row true 0 1 [.int .i64 m.kind,.int .i64 m.index,.int .i64 m.size]:=Heap.get_push_self _ _
    have k3:Same (fun _=>False) H (K2.push (.row true 0 1 [.int .i64 m.kind,.int .i64 m.index,.int .i64 m.size])):=(kp.trans kA).then_push _
    have lr3:=Heap.lt_of_get gr3 (by simp)
    simp[nmV,Nm.v]
    refine region_plan (by exact pl_tmeans) ?_
    generalize K2.push (.row true 0 1 [.int .i64 m.kind,.int .i64 m.index,.int .i64 m.size])=K3 at *
    have nb:H.n<Hb.n:=Heap.lt_of_get gr (by simp)
    have nn:K2.n≠H.n:=by have:=kA.n;omega
    have gs3:∀ o,(K3.set H.n o).get K2.n = .row true 0 1 [.int .i64 m.kind,.int .i64 m.index,.int .i64 m.size]:=fun o=>by rw[Heap.get_set _ _ _ lr3,if_neg nn];exact gm3
    simp[gr3,gm3,lr3,gs3]
    exact k3.then_set lr3 (.inr (by omega)) _
   | none =>
    rw[hgl]at e2
    have gr3:(K2.push (.row true 0 1 [.int .i64 0,.int .i64 0,.int .i64 0])).get H.n=_:=(kA.then_push _).at gr (by simp) (fun h=>h)
    have k3:Same (fun _=>False) Hb (K2.push (.row true 0 1 [.int .i64 0,.int .i64 0,.int .i64 0])):=kA.then_push _
    have g4:=k3.at g (by simp) (fun h=>h)
    have k3':Same (fun _=>False) H (K2.push (.row true 0 1 [.int .i64 0,.int .i64 0,.int .i64 0])):=kp.trans k3
    simp[nmV,zN]
    generalize K2.push (.row true 0 1 [.int .i64 0,.int .i64 0,.int .i64 0])=K3 at *
    obtain⟨K4,e4,k4⟩:=procN_run hE (CT.tab hT (h1.keep k3)) x
    rw[(ha.proc x).1,(ha.proc x).2,rIdx_prc',show (idxF x 0 R.procs).isSome=isPrc R x from rfl]at e4
    have gr4:=k4.at gr3 (by simp) (fun h=>h)
    have lr4:=Heap.lt_of_get gr4 (by simp)
    by_cases hp:isPrc R x=true
    · simp[g4,e4,hp,gr4,lr4]
      exact⟨rfl,(k3'.trans k4).then_set lr4 (.inr (by omega)) _⟩
    · simp[g4,e4,hp,gr4,lr4]
      exact⟨rfl,(k3'.trans k4).then_set lr4 (.inr (by omega)) _⟩
theorem tmust_run (hgd:RGood R){H:Heap}(h:CT H0 H tid cid c v)(x:ByteArray)(a k:Int)(hk:k = -2∨1≤k):∃ o H',(run Tryz.prog E).call 53 [.pointer (some ⟨cid,0,none⟩),.string x,.int .i64 a,.int .i64 k] H=some (o,H')∧Same (fun _=>False) H H' ∧
  o=match mustB R c.p x a k with | none=>Out.val (meansP R c.p x).1.v | some q => .pan (fltV q):=by
 suffices key:Gives ((run Tryz.prog E).call 53 [.pointer (some ⟨cid,0,none⟩),.string x,.int .i64 a,.int .i64 k] H) fun o H'=>Same (fun _=>False) H H'∧o=match mustB R c.p x a k with | none=>Out.val (meansP R c.p x).1.v | some q => .pan (fltV q) by
  obtain⟨o,H',e,k⟩:=key
  exact⟨o,H',e,k⟩
 have kp:Same (fun _=>False) H (H.push (.row true 0 1 [.int .i64 0,.int .i64 0,.int .i64 0])):=Same.push _ _ _
 have h1:=h.keep kp
 have gr:(H.push (.row true 0 1 [.int .i64 0,.int .i64 0,.int .i64 0])).get H.n = .row true 0 1 [.int .i64 0,.int .i64 0,.int .i64 0]:=Heap.get_push_self _ _
 obtain⟨K1,e1,k1⟩:=tmeans_run hE hT ha hok h1 x
 have kd := @RGood.kind _ hgd x
 have hm:mustB R c.p x a k=if (meansP R c.p x).2=0 then some (18,a)else if (meansP R c.p x).2=k then none else some (19,a):=by
  unfold mustB meansP
  by_cases hl:isLoc R c.p x=true
  · rw[if_pos hl,if_pos hl]
    simp only
    rw[if_neg (by decide),if_neg (by omega)]
  · rw[if_neg hl,if_neg hl]
    cases hg:glob R x with
    | some m =>
     have:=kd hg
     simp only
     rw[if_neg (show ¬m.kind=0 by omega)]
    | none =>
     simp only
     by_cases hp:isPrc R x=true
     · rw[if_pos hp,if_pos hp]
       simp only
       rw[if_neg (show ¬(-2:Int)=0 by decide)]
       by_cases hk2:k = -2
       · rw[if_pos hk2,if_pos hk2.symm]
       · rw[if_neg hk2,if_neg (fun e=>hk2 e.symm)]
     · rw[if_neg hp,if_neg hp]
       simp
 rw[hm]
 generalize meansP R c.p x=M at *
 obtain⟨⟨mk,mi,ms⟩,ki⟩:=M
 have gr2:=(k1.then_push (.row true 0 1 [.int .i64 mk,.int .i64 mi,.int .i64 ms])).at gr (by simp) (fun h=>h)
 have gm2:(K1.push (.row true 0 1 [.int .i64 mk,.int .i64 mi,.int .i64 ms])).get K1.n = .row true 0 1 [.int .i64 mk,.int .i64 mi,.int .i64 ms]:=Heap.get_push_self _ _
 have k2:Same (fun _=>False) H (K1.push (.row true 0 1 [.int .i64 mk,.int .i64 mi,.int .i64 ms])):=(kp.trans k1).then_push _
 have lr2:=Heap.lt_of_get gr2 (by simp)
 simp only[Nm.v]at e1 ⊢
 rw[c_tmust hE,callB,bodyOf]
 simp[Tryz.f53,e1]
 generalize K1.push (.row true 0 1 [.int .i64 mk,.int .i64 mi,.int .i64 ms])=K2 at *
 by_cases h0:ki=0
 · have ef:=tfail_run hE 18 a K2
   simp[h0,ef]
   exact k2
 · by_cases hki:ki=k
   · subst hki
     simp[h0,gr2,gm2,lr2]
     exact k2.then_set lr2 (.inr (by omega)) _
   · have ef:=tfail_run hE 19 a K2
     simp[h0,hki,ef]
     exact k2
end
theorem InS.at {H:Heap}{S:Nat→Prop}{v:Value}{l:List ByteArray}(h:InS H S v l){k:Nat}(hk:k<l.length):∃ id tl cap cs,v = .slice (some ⟨id,0,none⟩) l.length cap∧H.get id = .row true tl 1 cs∧∃ h:k<cs.length,cs[k]'h = .string l[k]:=by
 rcases h with⟨n,rfl,rfl,rfl⟩ | ⟨id,tl,cap,cs,h1,h2,h3,h4,h5,h6,h7⟩
 · cases hk
 · refine⟨id,tl,cap,cs,h1,h4,by omega,?_⟩
   have e:(cs.take l.length)[k]? = some (.string l[k]):=by rw[h7];simp[hk]
   rw[List.getElem?_take_of_lt hk]at e
   exact (List.getElem?_eq_some_iff.1 e).2
theorem InS.slice {H:Heap}{S:Nat→Prop}{v:Value}{l:List ByteArray}(h:InS H S v l):∃ b cap,v = .slice b l.length cap:=by
 rcases h with⟨n,rfl,rfl,rfl⟩ | ⟨id,tl,cap,cs,h1,_⟩
 · exact⟨none,0,rfl⟩
 · exact⟨_,_,h1⟩
theorem isEmpty_eq' (b:ByteArray):b.toList.isEmpty=decide (b=ByteArray.empty):=by
 rw[← toList_beq,ByteArray.toList_eq,ByteArray.toList_eq]
 obtain⟨⟨l⟩⟩:=b
 cases l<;>rfl
def ixV (o:Option Nat):Int:=match o with
 | some n=>n
 | none => -1
section
variable {E:Hooks} (hE:Plain E)
include hE
theorem c_tindex (args:List Value)(H:Heap):(run Tryz.prog E).call 109 args H=callB Tryz.prog E Tryz.f109 args H:=call_B Tryz.func109 rfl (by decide +kernel) (hE.no _ rfl rfl) args H
theorem c_tcontains (args:List Value)(H:Heap):(run Tryz.prog E).call 91 args H=callB Tryz.prog E Tryz.f91 args H:=call_B Tryz.func91 rfl (by decide +kernel) (hE.no _ rfl rfl) args H
theorem tindex_run {H:Heap}{S:Nat→Prop}{v:Value}{l:List ByteArray}(g:InS H S v l)(hl:l.length≤100000)(x:ByteArray):(run Tryz.prog E).call 109 [v,.string x] H=some (.val (.int .i64 (ixV (idxF x 0 l))),H):=by
 suffices key:Gives ((run Tryz.prog E).call 109 [v,.string x] H) fun o H'=>o = .val (.int .i64 (ixV (idxF x 0 l)))∧H'=H by
  obtain⟨o,H',e,rfl,rfl⟩:=key
  exact e
 obtain⟨b,cap,rfl⟩:=g.slice
 rw[c_tindex hE,callB,bodyOf]
 simp[Tryz.f109]
 refine loop_mid2 (fun t K'=>K'=H∧idxF x 0 l=none) (fun m t K'=>K'=H∧∃ k,k≤l.length∧m=l.length - k∧rd t 8 = .int .i64 k∧idxF x 0 l=idxF x k (l.drop k)) l.length ?_ ?_ ?_
 · exact⟨rfl,0,Nat.zero_le _,by simp,by simp,by simp⟩
 · rintro m t _ hk ⟨rfl,k,hkl,rfl,g8,hf⟩
   have ht:t.length=19:=hk.1.trans (by simp[len_Bs])
   have hh:=hk.all [0,1,7] (by decide +kernel)
   simp at hh
   obtain⟨u0,u1,u7⟩:=hh
   have w1:IntKind.i64.wrap ((k:Int)+1)=(k:Int)+1:=wrap64 _ (by omega) (by omega)
   rcases Nat.lt_or_ge k l.length with hlt | hge
   · obtain⟨id,tl,cap',cs,e1,hrow,hk1,hc1⟩:=g.at hlt
     cases e1
     rw[List.drop_eq_getElem_cons hlt,idxF]at hf
     generalize l[k]=y at *
     by_cases hy:y=x
     · rw[if_pos hy]at hf
       rw[hf]
       simp[ht,u0,u1,u7,g8,hlt,hrow,hk1,hc1,hy,ixV]
     · rw[if_neg hy]at hf
       simp[ht,u0,u1,u7,g8,hlt,hrow,hk1,hc1,show ¬x=y from fun e=>hy e.symm,w1]
       exact⟨l.length - (k+1),by omega,k+1,by omega,rfl,by simp[ht],hf⟩
   · simp[ht,u0,u1,u7,g8,show ¬k<l.length by omega]
     rw[hf,List.drop_eq_nil_of_le hge,idxF]
 · rintro t _ hk ⟨rfl,hf⟩
   have ht:t.length=19:=hk.1.trans (by simp[len_Bs])
   rw[hf]
   simp[ht,ixV]
theorem tcontains_run {H:Heap}{S:Nat→Prop}{v:Value}{l:List ByteArray}(g:InS H S v l)(hl:l.length≤100000)(x:ByteArray):(run Tryz.prog E).call 91 [v,.string x] H=some (.val (.bool (hasP l x)),H):=by
 suffices key:Gives ((run Tryz.prog E).call 91 [v,.string x] H) fun o H'=>o = .val (.bool (hasP l x))∧H'=H by
  obtain⟨o,H',e,rfl,rfl⟩:=key
  exact e
 have e:=tindex_run hE g hl x
 have hh:=idx_has x 0 l
 obtain⟨b,cap,rfl⟩:=g.slice
 rw[c_tcontains hE,callB,bodyOf]
 simp[Tryz.f91,e]
 rw[← hh]
 cases idxF x 0 l with
 | none=>simp[ixV]
 | some n=>simp[ixV]
variable {H0:Heap} {tid cid:Nat} {v:Value} {c:At} {col:Nat→Nat} {nid pid rid:Nat} {v1 v2 v3 v4 v5:Value} {T:Tab} (hT:RTab H0 col tid nid pid rid v1 v2 v3 v4 v5 T) {R:RT} (ha:Scope.Agree T R) (hok:TOK T) (hgd:RGood R)
include hT ha hok hgd
theorem tvar_run {H:Heap}(h:CT H0 H tid cid c v)(x:ByteArray)(a:Int)(arr:Bool):∃ H',(run Tryz.prog E).call 63 [.pointer (some ⟨cid,0,none⟩),.string x,.int .i64 a,.bool arr] H=some (outF (varB R c x a arr),H')∧Same (fun _=>False) H H':=by
 suffices key:Gives ((run Tryz.prog E).call 63 [.pointer (some ⟨cid,0,none⟩),.string x,.int .i64 a,.bool arr] H) fun o H'=>o=outF (varB R c x a arr)∧Same (fun _=>False) H H' by
  obtain⟨o,H',e,rfl,k⟩:=key
  exact⟨H',e,k⟩
 obtain⟨K1,e1,k1⟩:=tmeans_run hE hT ha hok h x
 have kd := @RGood.kind _ hgd x
 have hv:varB R c x a arr=(if (meansP R c.p x).2=0 then some (18,a)else if (meansP R c.p x).2 = -1∧arr=false then none else if ((meansP R c.p x).2≠3∧(meansP R c.p x).2≠4)∨decide (0<(meansP R c.p x).1.size)≠arr then some (19,a)else if (meansP R c.p x).2=3∧hasP c.ins x=false then some (22,a)else if c.cond≠ByteArray.empty∧c.cond≠x then some (23,a)else none):=by
  unfold varB meansP
  by_cases hl:isLoc R c.p x=true
  · rw[if_pos hl,if_pos hl]
    cases arr<;>simp
  · rw[if_neg hl,if_neg hl]
    cases hg:glob R x with
    | some m =>
     have:=kd hg
     simp only
     rw[if_neg (show ¬m.kind=0 by omega),if_neg (show ¬(m.kind = -1∧arr=false) by omega)]
     have:clsP m.kind≠3↔(m.kind≠3∧m.kind≠4):=by unfold clsP;split<;>omega
     simp only[this]
    | none =>
     simp only
     by_cases hp:isPrc R x=true
     · rw[if_pos hp,if_pos hp]
       simp
     · rw[if_neg hp,if_neg hp]
       simp
 rw[hv]
 generalize meansP R c.p x=M at *
 obtain⟨⟨mk,mi,ms⟩,ki⟩:=M
 have gm2:(K1.push (.row true 0 1 [.int .i64 mk,.int .i64 mi,.int .i64 ms])).get K1.n = .row true 0 1 [.int .i64 mk,.int .i64 mi,.int .i64 ms]:=Heap.get_push_self _ _
 have k2:Same (fun _=>False) H (K1.push (.row true 0 1 [.int .i64 mk,.int .i64 mi,.int .i64 ms])):=k1.then_push _
 simp only[Nm.v]at e1 ⊢
 obtain⟨b,cap,rfl⟩:=h.gi.slice
 rw[c_tvar hE,callB,bodyOf]
 simp[Tryz.f63,e1]
 generalize K1.push (.row true 0 1 [.int .i64 mk,.int .i64 mi,.int .i64 ms])=K2 at *
 have h2:=h.keep k2
 have g2:=h2.obj
 simp only[tk4]at g2
 have eh:=tcontains_run hE h2.gi h.il x
 have e18:=tfail_run hE 18 a K2
 have e19:=tfail_run hE 19 a K2
 have e22:=tfail_run hE 22 a K2
 have e23:=tfail_run hE 23 a K2
 by_cases c0:ki=0
 · simp[c0,e18,outF]
   exact k2
 by_cases c1:ki = -1
 · subst c1
   cases arr with
   | false=>simp[outF];exact k2
   | true=>simp[e19,outF];exact k2
 by_cases c3:ki=3
 · subst c3
   by_cases cs:decide (0<ms)=arr
   · subst cs
     simp[gm2]
     by_cases ci:hasP c.ins x=true
     · simp[g2,eh,ci,isEmpty_eq']
       by_cases cw:c.cond=ByteArray.empty
       · simp[cw,outF];exact k2
       · by_cases cx:c.cond=x
         · simp[cw,g2,cx,show ¬x=ByteArray.empty from cx ▸ cw,outF];exact k2
         · simp[cw,g2,cx,e23,outF];exact k2
     · simp[g2,eh,ci,e22,outF];exact k2
   · have cs':(decide (0<ms) != arr)=true:=by simpa using cs
     simp[gm2,cs,cs',e19,outF]
     exact k2
 by_cases c4:ki=4
 · subst c4
   by_cases cs:decide (0<ms)=arr
   · subst cs
     simp[gm2,g2,isEmpty_eq']
     by_cases cw:c.cond=ByteArray.empty
     · simp[cw,outF];exact k2
     · by_cases cx:c.cond=x
       · simp[cw,g2,cx,show ¬x=ByteArray.empty from cx ▸ cw,outF];exact k2
       · simp[cw,g2,cx,e23,outF];exact k2
   · have cs':(decide (0<ms) != arr)=true:=by simpa using cs
     simp[gm2,cs,cs',e19,outF]
     exact k2
 · simp[c0,c1,c3,c4,e19,outF]
   exact k2
end
def LX (H:Heap)(v:Value)(l:List Ex):Prop:=(v = .slice none 0 0∧l=[])∨∃ (S:Nat→Prop) (id tl:Nat) (cs:List Value),v = .slice (some ⟨id,0,none⟩) l.length l.length∧H.get id = .row true tl 6 cs∧REs H S l cs
theorem LX.slice {H:Heap}{v:Value}{l:List Ex}(h:LX H v l):∃ b,v = .slice b l.length l.length:=by
 rcases h with⟨rfl,rfl⟩ | ⟨S,id,tl,cs,rfl,_⟩
 · exact⟨_,rfl⟩
 · exact⟨_,rfl⟩
theorem LX.at {H:Heap}{v:Value}{l:List Ex}(h:LX H v l){k:Nat}(hk:k<l.length):∃ (S:Nat→Prop)(id tl:Nat)(cs:List Value),v = .slice (some ⟨id,0,none⟩) l.length l.length∧id<H.n∧H.get id = .row true tl 6 cs∧RE H S l[k] ((cs.drop (k * 6)).take 6)∧cs.length=l.length * 6∧k * 6+6≤l.length * 6:=by
 rcases h with⟨rfl,rfl⟩ | ⟨S,id,tl,cs,rfl,hg,hs⟩
 · cases hk
 · have hs':=repEx_L.2 hs
   have:=repEx.L_get k hk hs'
   have hl:=repEx.L_len hs'
   simp only[repEx]at this hl
   exact⟨S,id,tl,cs,rfl,Heap.lt_of_get hg (by simp),hg,this,hl,by omega⟩
theorem LX.of {H:Heap}{S:Nat→Prop}{v:Value}{l:List Ex}(h:repEx.G H S v l):LX H v l:=by
 rcases h with h | ⟨id,tl,cs,h1,_,_,h4,h5⟩
 · exact .inl h
 · exact .inr ⟨_,id,tl,cs,h1,h4,repEx_L.1 h5⟩
def outX (f:Option Flt)(n:Int):Out:=match f with
 | none => .val (.int .i64 n)
 | some q => .pan (fltV q)
def TEx (E:Hooks)(H0:Heap)(tid cid:Nat)(R:RT)(x:Ex):Prop:=∀ {H:Heap} {c:At} {v:Value} {cs:List Value} {S:Nat→Prop},CT H0 H tid cid c v→RE H0 S x cs →
 ∃ H',(run Tryz.prog E).call 32 [.pointer (some ⟨cid,0,none⟩),.agg ⟨cs⟩] H=some (outX (exB R c x) (tyP x),H')∧Same (fun _=>False) H H'
def TwlI (H:Heap)(R:RT)(c:At)(k:Int)(l:List Ex)(m:Nat)(t:List Value)(K:Heap):Prop :=
 ∃ i:Nat,i≤l.length∧m=l.length - i∧rd t 10 = .int .i64 i∧Same (fun _=>False) H K∧wantB R c k (l.drop i)=wantB R c k l
section
variable {E:Hooks} (hE:Plain E)
include hE
theorem c_twant (args:List Value)(H:Heap):(run Tryz.prog E).call 64 args H=callB Tryz.prog E Tryz.f64 args H:=call_B Tryz.func64 rfl (by decide +kernel) (hE.no _ rfl rfl) args H
theorem c_texpr (args:List Value)(H:Heap):(run Tryz.prog E).call 32 args H=callB Tryz.prog E Tryz.f32 args H:=call_B Tryz.func32 rfl (by decide +kernel) (hE.no _ rfl rfl) args H
variable {H0:Heap} {tid cid:Nat} {R:RT}
theorem twant_of {H:Heap}{c:At}{v:Value}(h:CT H0 H tid cid c v)(k:Int){w:Value}{l:List Ex}(gl:LX H0 w l)(hl:l.length≤100000)(hm:∀ x∈l,TEx E H0 tid cid R x) :
  ∃ H',(run Tryz.prog E).call 64 [.pointer (some ⟨cid,0,none⟩),.int .i64 k,w] H=some (outF (wantB R c k l),H')∧Same (fun _=>False) H H':=by
 suffices key:Gives ((run Tryz.prog E).call 64 [.pointer (some ⟨cid,0,none⟩),.int .i64 k,w] H) fun o H'=>o=outF (wantB R c k l)∧Same (fun _=>False) H H' by
  obtain⟨o,H',e,rfl,k⟩:=key
  exact⟨H',e,k⟩
 obtain⟨b,rfl⟩:=gl.slice
 rw[c_twant hE,callB,bodyOf]
 simp[Tryz.f64]
 refine loop_wp (TwlI H R c k l) l.length ?_ ?_
 · exact⟨0,Nat.zero_le _,by simp,by simp,Same.refl _ _,by simp⟩
 · rintro m t K hkk ⟨i,hil,rfl,g10,kK,hg⟩
   have ht:t.length=23:=hkk.1.trans (by simp[len_Bs])
   have hh:=hkk.all [0,1,8,9] (by decide +kernel)
   simp at hh
   obtain⟨u0,u1,u8,u9⟩:=hh
   have w1:IntKind.i64.wrap ((i:Int)+1)=(i:Int)+1:=wrap64 _ (by omega) (by omega)
   rcases Nat.lt_or_ge i l.length with hlt | hge
   · obtain⟨S,id,tl,cs,e1,hid,hrow,hget,hcl,hle⟩:=gl.at hlt
     cases e1
     rw[List.drop_eq_getElem_cons hlt,wantB]at hg
     have hK:=h.keep kK
     have hrK:=hK.kp.at hrow (by simp) (by omega)
     have hx:=fun {H:Heap} (q:CT H0 H tid cid c v)=>hm _ (List.getElem_mem hlt) q hget
     generalize l[i]=x at *
     obtain⟨kind,at_,num,op,name,sub⟩:=x
     have six:=hget
     simp only[RE]at six
     obtain⟨y,hy,hsub⟩:=six
     have hyw:isTuple y=false∧y.cells.toList=[y]:=by rcases hsub with⟨rfl,_⟩ | ⟨id,tl,cs',rfl,_⟩<;>exact⟨rfl,rfl⟩
     have kq:Same (fun _=>False) K (K.push (.row true 0 1 [.int .i64 kind,.int .i64 at_,.int .i64 num,.int .i64 op,.string name,y])):=Same.push _ _ _
     obtain⟨K2,e2,k2⟩:=hx (hK.keep kq)
     rw[hy]at e2
     have g7:(K.push (.row true 0 1 [.int .i64 kind,.int .i64 at_,.int .i64 num,.int .i64 op,.string name,y])).get K.n = .row true 0 1 [.int .i64 kind,.int .i64 at_,.int .i64 num,.int .i64 op,.string name,y]:=Heap.get_push_self _ _
     have g72:=k2.at g7 (by simp) (fun h=>h)
     have kk:=kK.trans (kq.trans k2)
     simp[ht,u0,u1,u8,u9,g10,hlt,hrK,hcl,hle,hy,hyw]
     generalize K.push (.row true 0 1 [.int .i64 kind,.int .i64 at_,.int .i64 num,.int .i64 op,.string name,y])=Kp at *
     cases hxb:exB R c (.mk kind at_ num op name sub)with
     | some q =>
      rw[hxb]at e2 hg
      simp only[outX]at e2
      simp[ht,u0,u1,u8,u9,g10,g7,e2]
      rw[← hg]
      exact⟨rfl,kk⟩
     | none =>
      rw[hxb]at e2 hg
      simp only[outX]at e2
      by_cases ct:tyP (.mk kind at_ num op name sub)=k
      · simp[ht,u0,u1,u8,u9,g10,g7,e2,ct,w1]
        refine⟨l.length - (i+1),by omega,i+1,by omega,rfl,by simp[ht],kk,?_⟩
        rw[← hg]
        simp[typB,ct]
      · have ef:=tfail_run hE 21 at_ K2
        simp[ht,u0,u1,u8,u9,g10,g7,e2,ct,g72,ef]
        rw[← hg]
        simp[typB,ct,outF,exAt]
        exact kk
   · have:i=l.length:=by omega
     subst this
     simp[wantB]at hg
     simp[ht,u0,u1,u8,u9,g10]
     rw[← hg];exact⟨rfl,kK⟩
variable {v:Value} {c:At} {col:Nat→Nat} {nid pid rid:Nat} {v1 v2 v3 v4 v5:Value} {T:Tab} (hT:RTab H0 col tid nid pid rid v1 v2 v3 v4 v5 T) (ha:Scope.Agree T R) (hok:TOK T) (hgd:RGood R)
include hT ha hok hgd
theorem texpr_run:∀ (n:Nat)(x:Ex),SizeOf.sizeOf x<n→WFx x→TEx E H0 tid cid R x:=by
 intro n
 induction n with
 | zero=>intro x hx;exact absurd hx (Nat.not_lt_zero _)
 | succ n ih =>
 intro x hx hwf H c v cs S h hc
 suffices key:Gives ((run Tryz.prog E).call 32 [.pointer (some ⟨cid,0,none⟩),.agg ⟨cs⟩] H) fun o H'=>o=outX (exB R c x) (tyP x)∧Same (fun _=>False) H H' by
  obtain⟨o,H',e,rfl,k⟩:=key
  exact⟨H',e,k⟩
 obtain⟨kind,at_,num,op,name,sub⟩:=x
 simp only[RE]at hc
 obtain⟨w,rfl,hsub⟩:=hc
 have lx:LX H0 w sub:=by
  rcases hsub with h | ⟨id,tl,cs',h1,_,h4,h5⟩
  · exact .inl h
  · exact .inr ⟨S,id,tl,cs',h1,h4,h5⟩
 clear hsub
 obtain⟨b,rfl⟩:=lx.slice
 simp only[WFx]at hwf
 obtain⟨hshape,_,_,hsubs⟩:=hwf
 have kp:Same (fun _=>False) H (H.push (.row true 0 1 [.int .i64 kind,.int .i64 at_,.int .i64 num,.int .i64 op,.string name,.slice b sub.length sub.length])):=Same.push _ _ _
 have h1:=h.keep kp
 have g3:(H.push (.row true 0 1 [.int .i64 kind,.int .i64 at_,.int .i64 num,.int .i64 op,.string name,.slice b sub.length sub.length])).get H.n = .row true 0 1 [.int .i64 kind,.int .i64 at_,.int .i64 num,.int .i64 op,.string name,.slice b sub.length sub.length]:=Heap.get_push_self _ _
 generalize hH1:H.push (.row true 0 1 [.int .i64 kind,.int .i64 at_,.int .i64 num,.int .i64 op,.string name,.slice b sub.length sub.length])=H1 at *
 have mem:∀ y∈sub,TEx E H0 tid cid R y:=fun y hy=>by
  have:=List.sizeOf_lt_of_mem hy
  simp only[Ex.mk.sizeOf_spec]at hx
  intro H c v cs S a b
  exact ih y (by omega) (hsubs.mem y hy) a b
 rw[c_texpr hE,callB,bodyOf]
 simp only[exB,tyP]
 rcases hshape with⟨rfl,_⟩ | ⟨rfl,_⟩ | ⟨rfl,_⟩ | ⟨rfl,hs,_⟩ | ⟨rfl,hs,_,hop⟩ | ⟨rfl,hs,_,hop⟩
 · simp[Tryz.f32,hH1,g3,outX]
   exact kp
 · simp[Tryz.f32,hH1,g3,outX]
   exact kp
 · obtain⟨K1,e1,k1⟩:=tvar_run hE hT ha hok hgd h1 name at_ false
   cases hv:varB R c name at_ false with
   | none =>
    rw[hv]at e1
    simp only[outF]at e1
    simp[Tryz.f32,hH1,g3,e1,outX,hv]
    exact kp.trans k1
   | some q =>
    rw[hv]at e1
    simp only[outF]at e1
    simp[Tryz.f32,hH1,g3,e1,outX,hv]
    exact kp.trans k1
 · obtain⟨K1,e1,k1⟩:=tvar_run hE hT ha hok hgd h1 name at_ true
   obtain⟨K2,e2,k2⟩:=twant_of hE (h1.keep k1) 1 lx (by omega) mem
   have g31:=k1.at g3 (by simp) (fun h=>h)
   cases hv:varB R c name at_ true with
   | none =>
    rw[hv]at e1
    simp only[outF]at e1
    cases hw:wantB R c 1 sub with
    | none =>
     rw[hw]at e2
     simp only[outF]at e2
     simp[Tryz.f32,hH1,g3,e1,g31,e2,outX,hv,hw]
     exact kp.trans (k1.trans k2)
    | some q =>
     rw[hw]at e2
     simp only[outF]at e2
     simp[Tryz.f32,hH1,g3,e1,g31,e2,outX,hv,hw]
     exact kp.trans (k1.trans k2)
   | some q =>
    rw[hv]at e1
    simp only[outF]at e1
    simp[Tryz.f32,hH1,g3,e1,outX,hv]
    exact kp.trans k1
 · have hop':9≤op∧op≤23:=by
    have hb:=hop.1
    omega
   have hsz:sub.length≤100000:=by omega
   have hty:(op=23∧True∧True∧True∧True)∨(op=21∧True∧True∧True∧True)∨(op=22∧True∧True∧True∧True)∨(15≤op∧op≤20∧op≠23∧op≠21∧op≠22)∨(¬15≤op∧True∧op≠23∧op≠21∧op≠22):=by
    simp only[true_and,and_true]
    omega
   rcases hty with⟨rfl,_,o1,o2,o3⟩ | ⟨rfl,_,o1,o2,o3⟩ | ⟨rfl,_,o1,o2,o3⟩ | ⟨o4,o5,o1,o2,o3⟩ | ⟨o4,o5,o1,o2,o3⟩
   · obtain⟨K1,e1,k1⟩:=twant_of hE h1 2 lx hsz mem
     cases hw:wantB R c 2 sub with
     | none =>
      rw[hw]at e1
      simp only[outF]at e1
      simp[Tryz.f32,hH1,g3,e1,outX,opTy,hw]
      exact kp.trans k1
     | some q =>
      rw[hw]at e1
      simp only[outF]at e1
      simp[Tryz.f32,hH1,g3,e1,outX,opTy,hw]
      exact kp.trans k1
   · obtain⟨K1,e1,k1⟩:=twant_of hE h1 2 lx hsz mem
     cases hw:wantB R c 2 sub with
     | none =>
      rw[hw]at e1
      simp only[outF]at e1
      simp[Tryz.f32,hH1,g3,e1,outX,opTy,hw]
      exact kp.trans k1
     | some q =>
      rw[hw]at e1
      simp only[outF]at e1
      simp[Tryz.f32,hH1,g3,e1,outX,opTy,hw]
      exact kp.trans k1
   · obtain⟨K1,e1,k1⟩:=twant_of hE h1 2 lx hsz mem
     cases hw:wantB R c 2 sub with
     | none =>
      rw[hw]at e1
      simp only[outF]at e1
      simp[Tryz.f32,hH1,g3,e1,outX,opTy,hw]
      exact kp.trans k1
     | some q =>
      rw[hw]at e1
      simp only[outF]at e1
      simp[Tryz.f32,hH1,g3,e1,outX,opTy,hw]
      exact kp.trans k1
   · obtain⟨K1,e1,k1⟩:=twant_of hE h1 1 lx hsz mem
     have g31:=k1.at g3 (by simp) (fun h=>h)
     have o6:op≤23:=hop'.2
     have ho:opTy op=1:=by unfold opTy;rw[if_neg (by omega)]
     cases hw:wantB R c 1 sub with
     | none =>
      rw[hw]at e1
      simp only[outF]at e1
      simp[Tryz.f32,hH1,g3,e1,outX,o1,o2,o3,o4,o5,o6,g31,ho,hw]
      exact kp.trans k1
     | some q =>
      rw[hw]at e1
      simp only[outF]at e1
      simp[Tryz.f32,hH1,g3,e1,outX,o1,o2,o3,ho,hw]
      exact kp.trans k1
   · obtain⟨K1,e1,k1⟩:=twant_of hE h1 1 lx hsz mem
     have g31:=k1.at g3 (by simp) (fun h=>h)
     have ho:opTy op=1:=by unfold opTy;rw[if_neg (by omega)]
     cases hw:wantB R c 1 sub with
     | none =>
      rw[hw]at e1
      simp only[outF]at e1
      simp[Tryz.f32,hH1,g3,e1,outX,o1,o2,o3,o4,g31,ho,hw]
      exact kp.trans k1
     | some q =>
      rw[hw]at e1
      simp only[outF]at e1
      simp[Tryz.f32,hH1,g3,e1,outX,o1,o2,o3,ho,hw]
      exact kp.trans k1
 · have hop':9≤op∧op≤23:=by
    have hb:=hop.1
    rcases hb with hb | hb<;>omega
   have hsz:sub.length≤100000:=by omega
   have hty:(op=23∧True∧True∧True∧True)∨(op=21∧True∧True∧True∧True)∨(op=22∧True∧True∧True∧True)∨(15≤op∧op≤20∧op≠23∧op≠21∧op≠22)∨(¬15≤op∧True∧op≠23∧op≠21∧op≠22):=by
    simp only[true_and,and_true]
    omega
   rcases hty with⟨rfl,_,o1,o2,o3⟩ | ⟨rfl,_,o1,o2,o3⟩ | ⟨rfl,_,o1,o2,o3⟩ | ⟨o4,o5,o1,o2,o3⟩ | ⟨o4,o5,o1,o2,o3⟩
   · obtain⟨K1,e1,k1⟩:=twant_of hE h1 2 lx hsz mem
     cases hw:wantB R c 2 sub with
     | none =>
      rw[hw]at e1
      simp only[outF]at e1
      simp[Tryz.f32,hH1,g3,e1,outX,opTy,hw]
      exact kp.trans k1
     | some q =>
      rw[hw]at e1
      simp only[outF]at e1
      simp[Tryz.f32,hH1,g3,e1,outX,opTy,hw]
      exact kp.trans k1
   · obtain⟨K1,e1,k1⟩:=twant_of hE h1 2 lx hsz mem
     cases hw:wantB R c 2 sub with
     | none =>
      rw[hw]at e1
      simp only[outF]at e1
      simp[Tryz.f32,hH1,g3,e1,outX,opTy,hw]
      exact kp.trans k1
     | some q =>
      rw[hw]at e1
      simp only[outF]at e1
      simp[Tryz.f32,hH1,g3,e1,outX,opTy,hw]
      exact kp.trans k1
   · obtain⟨K1,e1,k1⟩:=twant_of hE h1 2 lx hsz mem
     cases hw:wantB R c 2 sub with
     | none =>
      rw[hw]at e1
      simp only[outF]at e1
      simp[Tryz.f32,hH1,g3,e1,outX,opTy,hw]
      exact kp.trans k1
     | some q =>
      rw[hw]at e1
      simp only[outF]at e1
      simp[Tryz.f32,hH1,g3,e1,outX,opTy,hw]
      exact kp.trans k1
   · obtain⟨K1,e1,k1⟩:=twant_of hE h1 1 lx hsz mem
     have g31:=k1.at g3 (by simp) (fun h=>h)
     have o6:op≤23:=hop'.2
     have ho:opTy op=1:=by unfold opTy;rw[if_neg (by omega)]
     cases hw:wantB R c 1 sub with
     | none =>
      rw[hw]at e1
      simp only[outF]at e1
      simp[Tryz.f32,hH1,g3,e1,outX,o1,o2,o3,o4,o5,o6,g31,ho,hw]
      exact kp.trans k1
     | some q =>
      rw[hw]at e1
      simp only[outF]at e1
      simp[Tryz.f32,hH1,g3,e1,outX,o1,o2,o3,ho,hw]
      exact kp.trans k1
   · obtain⟨K1,e1,k1⟩:=twant_of hE h1 1 lx hsz mem
     have g31:=k1.at g3 (by simp) (fun h=>h)
     have ho:opTy op=1:=by unfold opTy;rw[if_neg (by omega)]
     cases hw:wantB R c 1 sub with
     | none =>
      rw[hw]at e1
      simp only[outF]at e1
      simp[Tryz.f32,hH1,g3,e1,outX,o1,o2,o3,o4,g31,ho,hw]
      exact kp.trans k1
     | some q =>
      rw[hw]at e1
      simp only[outF]at e1
      simp[Tryz.f32,hH1,g3,e1,outX,o1,o2,o3,ho,hw]
      exact kp.trans k1
end
theorem pl_tcall:planOf Tryz.prog (drawN Tryz.f75 0)=some [some (0,1),some (0,1),none,none,none,none,none,none,none,none]:=by decide +kernel
theorem must_prc {R:RT}(hgd:RGood R){p:Int}{x:ByteArray}{a:Int}(h:mustB R p x a (-2)=none):(meansP R p x).1=⟨0,prcOf R x,0⟩:=by
 unfold mustB at h
 unfold meansP
 by_cases hl:isLoc R p x=true
 · rw[if_pos hl]at h;cases h
 · rw[if_neg hl]at h ⊢
   cases hg:glob R x with
   | some m =>
    have:=hgd.kind hg
    rw[hg]at h
    simp only at h
    rw[if_neg (by omega)]at h
    cases h
   | none =>
    rw[hg]at h
    simp only at h ⊢
    by_cases hp:isPrc R x=true
    · rw[if_pos hp]
    · rw[if_neg hp]at h;cases h
section
variable {E:Hooks} (hE:Plain E)
include hE
theorem c_tcall (args:List Value)(H:Heap):(run Tryz.prog E).call 75 args H=callB Tryz.prog E Tryz.f75 args H:=call_B Tryz.func75 rfl (by decide +kernel) (hE.no _ rfl rfl) args H
variable {H0:Heap} {tid cid:Nat} {R:RT} {v:Value} {c:At} {col:Nat→Nat} {nid pid rid:Nat} {v1 v2 v3 v4 v5:Value} {T:Tab} (hT:RTab H0 col tid nid pid rid v1 v2 v3 v4 v5 T) (ha:Scope.Agree T R) (hok:TOK T) (hgd:RGood R)
include hT ha hok hgd
theorem twant_run {H:Heap}(h:CT H0 H tid cid c v)(k:Int){w:Value}{l:List Ex}(gl:LX H0 w l)(hl:l.length≤100000)(hwf:WFxs l) :
  ∃ H',(run Tryz.prog E).call 64 [.pointer (some ⟨cid,0,none⟩),.int .i64 k,w] H=some (outF (wantB R c k l),H')∧Same (fun _=>False) H H' :=
 twant_of hE h k gl hl fun y hy=>by
  intro H c v cs S a b
  exact texpr_run hE hT ha hok hgd _ y (Nat.lt_succ_self _) (hwf.mem y hy) a b
theorem tcall_run {H:Heap}(h:CT H0 H tid cid c v)(x:ByteArray)(a:Int){w:Value}{l:List Ex}(gl:LX H0 w l)(hl:l.length≤100000)(hwf:WFxs l) :
  ∃ H',(run Tryz.prog E).call 75 [.pointer (some ⟨cid,0,none⟩),.string x,.int .i64 a,w] H=some (outF (callT R c x a l),H')∧Same (fun _=>False) H H':=by
 suffices key:Gives ((run Tryz.prog E).call 75 [.pointer (some ⟨cid,0,none⟩),.string x,.int .i64 a,w] H) fun o H'=>o=outF (callT R c x a l)∧Same (fun _=>False) H H' by
  obtain⟨o,H',e,rfl,k⟩:=key
  exact⟨H',e,k⟩
 obtain⟨o1,K1,e1,k1,ho1⟩:=tmust_run hE hT ha hok hgd h x a (-2) (.inl rfl)
 subst ho1
 obtain⟨b,rfl⟩:=gl.slice
 unfold callT
 rw[c_tcall hE,callB,bodyOf]
 cases hm:mustB R c.p x a (-2)with
 | some q =>
  rw[hm]at e1
  simp[Tryz.f75,e1,outF]
  exact k1
 | none =>
  rw[hm]at e1
  rw[must_prc hgd hm]at e1
  simp only[Nm.v]at e1
  have kq:Same (fun _=>False) H (K1.push (.row true 0 1 [.int .i64 0,.int .i64 (prcOf R x),.int .i64 0])):=k1.then_push _
  have g8:(K1.push (.row true 0 1 [.int .i64 0,.int .i64 (prcOf R x),.int .i64 0])).get K1.n = .row true 0 1 [.int .i64 0,.int .i64 (prcOf R x),.int .i64 0]:=Heap.get_push_self _ _
  simp[Tryz.f75,e1]
  refine region_plan (by exact pl_tcall) ?_
  generalize K1.push (.row true 0 1 [.int .i64 0,.int .i64 (prcOf R x),.int .i64 0])=K2 at *
  have h2:=h.keep kq
  have g2:=h2.obj
  simp only[tk4]at g2
  obtain⟨K3,e3,k3⟩:=params_run hE (CT.tab hT h2) (prcOf R x)
  rw[ha.params]at e3
  simp[g2,g8,e3]
  by_cases hn:(l.length:Int)=rheadAt R (prcOf R x)
  · obtain⟨K4,e4,k4⟩:=twant_run hE hT ha hok hgd (h2.keep k3) 1 gl hl hwf
    have kk:=kq.trans (k3.trans k4)
    cases hw:wantB R c 1 l with
    | none =>
     rw[hw]at e4
     simp only[outF]at e4
     simp[hn,e4,outF]
     exact kk
    | some q =>
     rw[hw]at e4
     simp only[outF]at e4
     simp[hn,e4,outF]
     exact kk
  · have ef:=tfail_run hE 20 a K3
    simp[hn,ef,outF]
    exact kq.trans k3
end
theorem isEmpty_eq (b:ByteArray):b.toList.isEmpty=decide (b=ByteArray.empty):=by
 rw[← toList_beq,ByteArray.toList_eq,ByteArray.toList_eq]
 obtain⟨⟨l⟩⟩:=b
 cases l<;>rfl
def fc (f:Option Flt):Int:=match f with
 | some q=>q.1
 | none=>0
def fa (f:Option Flt):Int:=match f with
 | some q=>q.2
 | none=>0
def ck6 (rtid:Nat)(p:Int)(v:Value)(cond:ByteArray)(c a:Int):List Value:=[.pointer (some ⟨rtid,0,none⟩),.int .i64 p,v,.string cond,.int .i64 c,.int .i64 a]
structure CR (H0 H:Heap)(rtid cid:Nat)(c:At)(v:Value)(f:Option Flt):Prop where
 kp:Same (fun i=>H0.n≤i) H0 H
 hc:H0.n≤cid
 obj:H.get cid = .row true 0 1 (ck6 rtid c.p v c.cond (fc f) (fa f))
 gi:repStr.G H (fun i=>H0.n≤i∧i≠cid) v c.ins
 fk:FOK f
 il:c.ins.length≤100000
theorem CR.lt {H0 H:Heap}{rtid cid:Nat}{c:At}{v:Value}{f:Option Flt}(h:CR H0 H rtid cid c v f):cid<H.n:=Heap.lt_of_get h.obj (by simp)
theorem CR.keep {H0 H H':Heap}{rtid cid:Nat}{c:At}{v:Value}{f:Option Flt}(h:CR H0 H rtid cid c v f)(k:Same (fun _=>False) H H'):CR H0 H' rtid cid c v f :=
 ⟨h.kp.then k fun _ h=>h.elim,h.hc,k.at h.obj (by simp) fun h=>h,repStr.G_move k (fun i hi _=>⟨hi,fun h=>h⟩) h.gi,h.fk,h.il⟩
theorem CR.turn {H0 H H':Heap}{rtid cid:Nat}{c c':At}{v:Value}{f f':Option Flt}(h:CR H0 H rtid cid c v f)(k:Same (fun i=>i=cid) H H')(hp:c'.ins=c.ins)(ho:H'.get cid = .row true 0 1 (ck6 rtid c'.p v c'.cond (fc f') (fa f')))(hf:FOK f'):CR H0 H' rtid cid c' v f' :=
 ⟨h.kp.then k fun i e => .inl (by rw[e];exact h.hc),h.hc,ho,by rw[hp];exact repStr.G_move k (fun i hi _=>⟨hi,hi.2⟩) h.gi,hf,by rw[hp];exact h.il⟩
theorem rIdx_int (o:Option Nat)(d:Int):∃ i,rIdx o d = .int .i64 i:=⟨_,rfl⟩
theorem rIdx_prc (R:RT)(x:ByteArray):rIdx (idxF x 0 R.procs) 1 = .int .i64 (prcOf R x):=by unfold rIdx prcOf;cases idxF x 0 R.procs<;>rfl
def RetC (H0 H:Heap)(rtid cid:Nat)(c:At)(v:Value)(f:Option Flt)(H':Heap):Prop:=Same (fun i=>i=cid) H H'∧CR H0 H' rtid cid c v f
theorem CR.stay {H0 H H':Heap}{rtid cid:Nat}{c:At}{v:Value}{f:Option Flt}(h:CR H0 H rtid cid c v f)(k:Same (fun _=>False) H H'):RetC H0 H rtid cid c v f H':=⟨k.none,h.keep k⟩
theorem RetC.before {H0 H A H':Heap}{rtid cid:Nat}{c:At}{v:Value}{f:Option Flt}(h:RetC H0 A rtid cid c v f H')(k:Same (fun _=>False) H A):RetC H0 H rtid cid c v f H':=⟨k.none.trans h.1,h.2⟩
theorem q_kvar:quiet Tryz.prog (drawN Tryz.f80 0)=true:=by decide +kernel
theorem q_kglobal:quiet Tryz.prog (drawN Tryz.f58 0)=true:=by decide +kernel
section
variable {E:Hooks} (hE:Plain E)
include hE
theorem c_kbad (args:List Value)(H:Heap):(run Tryz.prog E).call 22 args H=callB Tryz.prog E Tryz.f22 args H:=call_B Tryz.func22 rfl (by decide +kernel) (hE.no _ rfl rfl) args H
theorem c_kfault (args:List Value)(H:Heap):(run Tryz.prog E).call 57 args H=callB Tryz.prog E Tryz.f57 args H:=call_B Tryz.func57 rfl (by decide +kernel) (hE.no _ rfl rfl) args H
theorem c_kvar (args:List Value)(H:Heap):(run Tryz.prog E).call 80 args H=callB Tryz.prog E Tryz.f80 args H:=call_B Tryz.func80 rfl (by decide +kernel) (hE.no _ rfl rfl) args H
theorem c_kglobal (args:List Value)(H:Heap):(run Tryz.prog E).call 58 args H=callB Tryz.prog E Tryz.f58 args H:=call_B Tryz.func58 rfl (by decide +kernel) (hE.no _ rfl rfl) args H
section
variable {H0:Heap} {rtid cid:Nat} {v:Value} {c:At} {f:Option Flt}
theorem kbad_run {H:Heap}(h:CR H0 H rtid cid c v f):(run Tryz.prog E).call 22 [.pointer (some ⟨cid,0,none⟩)] H=some (.val (.bool f.isSome),H):=by
 suffices key:Gives ((run Tryz.prog E).call 22 [.pointer (some ⟨cid,0,none⟩)] H) fun o H'=>o = .val (.bool f.isSome)∧H'=H by
  obtain⟨o,H',e,rfl,rfl⟩:=key
  exact e
 have g:=h.obj
 have fk:=h.fk
 simp only[ck6]at g
 rw[c_kbad hE,callB,bodyOf]
 cases f with
 | none=>simp[Tryz.f22,g,fc]
 | some q=>simp[Tryz.f22,g,fc,fk.ne q rfl]
theorem kfault_run {H:Heap}(h:CR H0 H rtid cid c v f)(co a:Int)(hco:co≠0):∃ H',(run Tryz.prog E).call 57 [.pointer (some ⟨cid,0,none⟩),.int .i64 co,.int .i64 a] H=some (.val (.tuple #[]),H')∧RetC H0 H rtid cid c v (f.or (some (co,a))) H':=by
 have e0:=kbad_run hE h
 have g:=h.obj
 simp only[ck6]at g
 cases f with
 | some q =>
  refine⟨H,?_,Same.refl _ _,by simpa using h⟩
  have key:Gives ((run Tryz.prog E).call 57 [.pointer (some ⟨cid,0,none⟩),.int .i64 co,.int .i64 a] H) fun o H'=>o = .val (.tuple #[])∧H'=H:=by
   rw[c_kfault hE,callB,bodyOf]
   simp[Tryz.f57,e0]
  obtain⟨o,H',e,rfl,rfl⟩:=key
  exact e
 | none =>
  obtain⟨H1,e1,k1⟩:=rfault_run hE co a H
  have g1:=k1.at g (by simp) (fun h=>h)
  have key:Gives ((run Tryz.prog E).call 57 [.pointer (some ⟨cid,0,none⟩),.int .i64 co,.int .i64 a] H) fun o H'=>o = .val (.tuple #[])∧H'=H1.set cid (.row true 0 1 (ck6 rtid c.p v c.cond co a)):=by
   rw[c_kfault hE,callB,bodyOf]
   simp[Tryz.f57,e0,e1,g1,ck6]
  obtain⟨o,H',e,rfl,rfl⟩:=key
  have hl:=(h.keep k1).lt
  have kk:Same (fun i=>i=cid) H (H1.set cid (.row true 0 1 (ck6 rtid c.p v c.cond co a))):=(Same.none (X:=(·=cid)) k1).then_set hl (.inl rfl) _
  exact⟨_,e,kk,h.turn kk rfl (Heap.get_set_self _ _ hl) (FOK.some hco)⟩
variable {col:Nat→Nat} {v1 v2 v3 v4 v5 v6:Value} {R:RT} (hR:RRef H0 col rtid v1 v2 v3 v4 v5 v6 R) (hok:ROK R)
include hR hok
omit hE hok in
theorem CR.tab {H:Heap}(h:CR H0 H rtid cid c v f):RRef H col rtid v1 v2 v3 v4 v5 v6 R:=hR.keep h.kp fun i hi=>hR.top i hi
theorem kvar_run {H:Heap}(h:CR H0 H rtid cid c v f)(x:ByteArray)(a:Int)(arr:Bool):∃ H',(run Tryz.prog E).call 80 [.pointer (some ⟨cid,0,none⟩),.string x,.int .i64 a,.bool arr] H=some (.val (.tuple #[]),H')∧RetC H0 H rtid cid c v (f.or (varB R c x a arr)) H':=by
 suffices key:Gives ((run Tryz.prog E).call 80 [.pointer (some ⟨cid,0,none⟩),.string x,.int .i64 a,.bool arr] H) fun o H'=>o = .val (.tuple #[])∧RetC H0 H rtid cid c v (f.or (varB R c x a arr)) H' by
  obtain⟨o,H',e,rfl,k⟩:=key
  exact⟨H',e,k⟩
 have e0:=kbad_run hE h
 have g:=h.obj
 rw[c_kvar hE,callB,bodyOf]
 cases f with
 | some q =>
  simp[Tryz.f80,e0]
  exact⟨Same.refl _ _,by simpa using h⟩
 | none =>
  simp only[ck6,fc,fa]at g
  have e1:=rlocal_run hE (CR.tab hR h) hok c.p x
  obtain⟨i0,hi0⟩:=rIdx_int (idxF x 0 (rlocalsAt R c.p)) 0
  rw[hi0]at e1
  simp only[Option.none_or]
  unfold varB
  simp[Tryz.f80,e0]
  refine region_quiet (by exact q_kvar) ?_
  simp[g,e1]
  by_cases hl:isLoc R c.p x=true
  · have hl':=hl
    unfold isLoc at hl'
    rw[if_pos hl]
    simp[hl']
    cases arr with
    | true =>
     obtain⟨H2,e2,r2⟩:=kfault_run hE h 19 a (by decide)
     simp[e2]
     simpa using r2
    | false =>
     simp
     exact⟨Same.refl _ _,h⟩
  · have hl':isLoc R c.p x=false:=by simpa using hl
    unfold isLoc at hl'
    rw[if_neg hl]
    obtain⟨A1,e2,k2⟩:=rglobal_run hE (CR.tab hR h) hok x
    rw[show findP x (R.names.zip R.means)=glob R x from rfl]at e2
    simp[hl',g,e2]
    cases hgl:glob R x with
    | none =>
     rw[hgl]at e2
     obtain⟨K,hK⟩:∃ K,K=A1.push (.row true 0 1 [.int .i64 0,.int .i64 0,.int .i64 0]):=⟨_,rfl⟩
     have kA:Same (fun _=>False) H K:=by rw[hK];exact k2.then_push _
     have hA:=h.keep kA
     have gA:=hA.obj
     simp only[ck6,fc,fa]at gA
     have e3:=rprocN_run hE (CR.tab hR hA) hok x
     rw[rIdx_prc,show (idxF x 0 R.procs).isSome=isPrc R x from rfl]at e3
     simp[nmV,zN,← hK,gA,e3]
     by_cases hp:isPrc R x=true
     · obtain⟨H3,e4,r4⟩:=kfault_run hE hA 19 a (by decide)
       simp[hp,e4]
       exact r4.before kA
     · have hp':isPrc R x=false:=by simpa using hp
       obtain⟨H3,e4,r4⟩:=kfault_run hE hA 18 a (by decide)
       simp[hp',e4]
       exact r4.before kA
    | some m =>
     rw[hgl]at e2
     obtain⟨K,hK⟩:∃ K,K=A1.push (.row true 0 1 [.int .i64 m.kind,.int .i64 m.index,.int .i64 m.size]):=⟨_,rfl⟩
     have kA:Same (fun _=>False) H K:=by rw[hK];exact k2.then_push _
     have gN:K.get A1.n = .row true 0 1 [.int .i64 m.kind,.int .i64 m.index,.int .i64 m.size]:=by rw[hK];exact Heap.get_push_self _ _
     have hA:=h.keep kA
     have gA:=hA.obj
     simp only[ck6,fc,fa]at gA
     have e3:=rprocN_run hE (CR.tab hR hA) hok x
     rw[rIdx_prc,show (idxF x 0 R.procs).isSome=isPrc R x from rfl]at e3
     have e4:=rclass_run hE m.kind K
     simp[nmV,Nm.v,← hK,gA,gN,e3]
     clear hK
     by_cases hk:clsP m.kind=3
     · simp[e4,hk,gN]
       by_cases hs:decide (0<m.size)=arr
       · subst hs
         simp[gA,gN]
         have e6:=hasText_run hE hA.gi (by have:=h.il;omega) x
         by_cases h3:m.kind=3
         · rw[h3]at gN
           simp[h3,e6,gA,gN]
           by_cases hi:hasP c.ins x=true
           · simp[hi,gA,isEmpty_eq]
             by_cases hw:c.cond=ByteArray.empty
             · simp[hw]
               simpa using h.stay kA
             · simp[hw,gA]
               by_cases hx:c.cond=x
               · simp[hx]
                 simpa using h.stay kA
               · obtain⟨H3,e5,r5⟩:=kfault_run hE hA 23 a (by decide)
                 simp[hx,e5]
                 exact r5.before kA
           · obtain⟨H3,e5,r5⟩:=kfault_run hE hA 22 a (by decide)
             simp[hi,e5]
             exact r5.before kA
         · simp[h3,gA,isEmpty_eq]
           by_cases hw:c.cond=ByteArray.empty
           · simp[hw]
             simpa using h.stay kA
           · simp[hw,gA]
             by_cases hx:c.cond=x
             · simp[hx]
               simpa using h.stay kA
             · obtain⟨H3,e5,r5⟩:=kfault_run hE hA 23 a (by decide)
               simp[hx,e5]
               exact r5.before kA
       · obtain⟨H3,e5,r5⟩:=kfault_run hE hA 19 a (by decide)
         have hs':(decide (0<m.size) != arr)=true:=by simpa using hs
         simp[hs,hs',e5,gN]
         exact r5.before kA
     · obtain⟨H3,e5,r5⟩:=kfault_run hE hA 19 a (by decide)
       simp[e4,hk,e5,gN]
       exact r5.before kA
theorem kglobal_run (hg:RGood R){H:Heap}(h:CR H0 H rtid cid c v f)(x:ByteArray)(a k:Int)(hk:k ≠ -2):∃ H',(run Tryz.prog E).call 58 [.pointer (some ⟨cid,0,none⟩),.string x,.int .i64 a,.int .i64 k] H=some (.val (.tuple #[]),H')∧RetC H0 H rtid cid c v (f.or (mustB R c.p x a (if k=0 then -2 else k))) H':=by
 suffices key:Gives ((run Tryz.prog E).call 58 [.pointer (some ⟨cid,0,none⟩),.string x,.int .i64 a,.int .i64 k] H) fun o H'=>o = .val (.tuple #[])∧RetC H0 H rtid cid c v (f.or (mustB R c.p x a (if k=0 then -2 else k))) H' by
  obtain⟨o,H',e,rfl,k⟩:=key
  exact⟨H',e,k⟩
 have e0:=kbad_run hE h
 have g:=h.obj
 rw[c_kglobal hE,callB,bodyOf]
 cases f with
 | some q =>
  simp[Tryz.f58,e0]
  exact⟨Same.refl _ _,by simpa using h⟩
 | none =>
  simp only[ck6,fc,fa]at g
  have e1:=rlocal_run hE (CR.tab hR h) hok c.p x
  obtain⟨i0,hi0⟩:=rIdx_int (idxF x 0 (rlocalsAt R c.p)) 0
  rw[hi0,show (idxF x 0 (rlocalsAt R c.p)).isSome=isLoc R c.p x from rfl]at e1
  simp only[Option.none_or]
  unfold mustB
  simp[Tryz.f58,e0]
  refine region_quiet (by exact q_kglobal) ?_
  obtain⟨A1,e2,k2⟩:=rglobal_run hE (CR.tab hR h) hok x
  rw[show findP x (R.names.zip R.means)=glob R x from rfl]at e2
  simp[g,e1,e2]
  have ap:=hg.apart x
  have kd := @RGood.kind _ hg x
  cases hgl:glob R x with
  | none =>
   rw[hgl]at e2
   obtain⟨K,hK⟩:∃ K,K=A1.push (.row true 0 1 [.int .i64 0,.int .i64 0,.int .i64 0]):=⟨_,rfl⟩
   have kA:Same (fun _=>False) H K:=by rw[hK];exact k2.then_push _
   have hA:=h.keep kA
   have gA:=hA.obj
   simp only[ck6,fc,fa]at gA
   have e3:=rprocN_run hE (CR.tab hR hA) hok x
   rw[rIdx_prc,show (idxF x 0 R.procs).isSome=isPrc R x from rfl]at e3
   simp[nmV,zN,← hK,gA,e3]
   clear hK
   obtain⟨H3,e4,r4⟩:=kfault_run hE hA 19 a (by decide)
   obtain⟨H4,e5,r5⟩:=kfault_run hE hA 18 a (by decide)
   have r4:=r4.before kA
   have r5:=r5.before kA
   have st:=h.stay kA
   simp only[Option.none_or]at r4 r5
   by_cases hl:isLoc R c.p x=true
   · simp[hl,e4]
     exact r4
   · by_cases hp:isPrc R x=true
     · by_cases h0:k=0
       · simp[hl,hp,h0]
         exact st
       · simp[hl,hp,h0,e4,hk]
         exact r4
     · simp[hl,hp,e5]
       exact r5
  | some m =>
   rw[hgl]at e2
   obtain⟨K,hK⟩:∃ K,K=A1.push (.row true 0 1 [.int .i64 m.kind,.int .i64 m.index,.int .i64 m.size]):=⟨_,rfl⟩
   have kA:Same (fun _=>False) H K:=by rw[hK];exact k2.then_push _
   have gN:K.get A1.n = .row true 0 1 [.int .i64 m.kind,.int .i64 m.index,.int .i64 m.size]:=by rw[hK];exact Heap.get_push_self _ _
   have hA:=h.keep kA
   have gA:=hA.obj
   simp only[ck6,fc,fa]at gA
   have e3:=rprocN_run hE (CR.tab hR hA) hok x
   rw[rIdx_prc,show (idxF x 0 R.procs).isSome=isPrc R x from rfl,ap (by rw[hgl];rfl)]at e3
   have kd:=kd hgl
   simp[nmV,Nm.v,← hK,gA,gN,e3]
   clear hK
   obtain⟨H3,e4,r4⟩:=kfault_run hE hA 19 a (by decide)
   have r4:=r4.before kA
   have st:=h.stay kA
   simp only[Option.none_or]at r4
   by_cases hl:isLoc R c.p x=true
   · simp[hl,e4]
     exact r4
   · by_cases h0:k=0
     · simp[hl,h0,e4,show ¬m.kind = -2 by omega]
       exact r4
     · by_cases hm:m.kind=k
       · simp[hl,h0,gN,hm]
         exact st
       · simp[hl,h0,gN,hm,e4]
         exact r4
end
end
theorem exs_len {H:Heap}{S:Nat→Prop}:∀ {l:List Ex}{cs:List Value},REs H S l cs→cs.length=l.length * 6
 | [],cs,h=>by simp only[REs]at h;subst h;rfl
 | e :: l, cs, h => by
  simp only[REs]at h
  obtain⟨c1,c2,rfl,h1,h2⟩:=h
  have:=h1.len
  have:=exs_len h2
  simp[Nat.add_mul];omega
theorem exs_at {H:Heap}{S:Nat→Prop}:∀ {l:List Ex}{cs:List Value},REs H S l cs→∀ i (hi:i<l.length),RE H S l[i] ((cs.drop (i * 6)).take 6)
 | [],cs,_,i,hi=>absurd hi (Nat.not_lt_zero _)
 | e :: l, cs, h, i, hi => by
  simp only[REs]at h
  obtain⟨c1,c2,rfl,h1,h2⟩:=h
  have hl:=h1.len
  cases i with
  | zero =>
   simp only[Nat.zero_mul,List.drop_zero,List.getElem_cons_zero]
   rw[List.take_left' hl];exact h1
  | succ i =>
   have e:(i+1) * 6=c1.length+i * 6:=by omega
   rw[List.getElem_cons_succ,e,List.drop_append,List.drop_eq_nil_of_le (by omega),List.nil_append,show c1.length+i * 6 - c1.length=i * 6 by omega]
   exact exs_at h2 i (by simpa using hi)
theorem size_at {l:List Ex}{i:Nat}(hi:i<l.length):SizeOf.sizeOf (l[i]'hi)<SizeOf.sizeOf l:=List.sizeOf_lt_of_mem (List.getElem_mem hi)
section
variable {E:Hooks} (hE:Plain E)
include hE
theorem c_kwant (args:List Value)(H:Heap):(run Tryz.prog E).call 81 args H=callB Tryz.prog E Tryz.f81 args H:=call_B Tryz.func81 rfl (by decide +kernel) (hE.no _ rfl rfl) args H
theorem c_kexpr (args:List Value)(H:Heap):(run Tryz.prog E).call 102 args H=callB Tryz.prog E Tryz.f102 args H:=call_B Tryz.func102 rfl (by decide +kernel) (hE.no _ rfl rfl) args H
end
def KEx (E:Hooks)(H0:Heap)(rtid cid:Nat)(R:RT)(x:Ex):Prop:=∀ {H:Heap} {c:At} {v:Value} {f:Option Flt} {cs:List Value} {S:Nat→Prop},CR H0 H rtid cid c v f→RE H0 S x cs →
 ∃ H',(run Tryz.prog E).call 102 [.pointer (some ⟨cid,0,none⟩),.agg ⟨cs⟩] H=some (.val (.int .i64 (tyP x)),H')∧RetC H0 H rtid cid c v (f.or (exB R c x)) H'
def KWa (E:Hooks)(H0:Heap)(rtid cid:Nat)(R:RT)(x:Ex):Prop:=∀ {H:Heap} {c:At} {v:Value} {f:Option Flt} {cs:List Value} {S:Nat→Prop} (k:Int),CR H0 H rtid cid c v f→RE H0 S x cs →
 ∃ H',(run Tryz.prog E).call 81 [.pointer (some ⟨cid,0,none⟩),.agg ⟨cs⟩,.int .i64 k] H=some (.val (.tuple #[]),H')∧RetC H0 H rtid cid c v (f.or ((exB R c x).or (typB k x))) H'
theorem RetC.at {H0 H H':Heap}{rtid cid:Nat}{c:At}{v:Value}{f:Option Flt}(h:RetC H0 H rtid cid c v f H'){i:Nat}{o:AObj}(hg:H.get i=o)(hd:o ≠ .dead)(hi:i≠cid):H'.get i=o:=h.1.at hg hd hi
theorem RetC.then {H0 H A H':Heap}{rtid cid:Nat}{c:At}{v:Value}{f g:Option Flt}(h:RetC H0 H rtid cid c v f A)(k:RetC H0 A rtid cid c v g H'):RetC H0 H rtid cid c v g H':=⟨h.1.trans k.1,k.2⟩
section
variable {E:Hooks} (hE:Plain E)
include hE
variable {H0:Heap} {rtid cid:Nat} {R:RT}
theorem kwant_of {x:Ex}(hx:KEx E H0 rtid cid R x):KWa E H0 rtid cid R x:=by
 intro H c v f cs S k h hc
 suffices key:Gives ((run Tryz.prog E).call 81 [.pointer (some ⟨cid,0,none⟩),.agg ⟨cs⟩,.int .i64 k] H) fun o H'=>o = .val (.tuple #[])∧RetC H0 H rtid cid c v (f.or ((exB R c x).or (typB k x))) H' by
  obtain⟨o,H',e,rfl,k⟩:=key
  exact⟨H',e,k⟩
 have kp:Same (fun _=>False) H (H.push (.row true 0 1 cs)):=Same.push _ _ _
 have h1:=h.keep kp
 have hlt:=h.lt
 have g4:(H.push (.row true 0 1 cs)).get H.n = .row true 0 1 cs:=Heap.get_push_self _ _
 obtain⟨H2,e2,r2⟩:=hx h1 hc
 have g4':=r2.at g4 (by simp) (by omega)
 obtain⟨kind,at_,num,op,name,sub⟩:=x
 simp only[RE]at hc
 obtain⟨w,rfl,hsub⟩:=hc
 have hw:isTuple w=false∧w.cells.toList=[w]:=by rcases hsub with⟨rfl,_⟩ | ⟨id,tl,cs',rfl,_⟩<;>exact⟨rfl,rfl⟩
 rw[c_kwant hE,callB,bodyOf]
 simp[Tryz.f81,hw,g4,e2]
 by_cases hk:tyP (.mk kind at_ num op name sub)=k
 · have ht:typB k (.mk kind at_ num op name sub)=none:=if_pos hk
   simp[hk]
   rw[ht,Option.or_none]
   exact r2.before kp
 · have ht:typB k (.mk kind at_ num op name sub)=some (21,at_):=if_neg hk
   obtain⟨H3,e3,r3⟩:=kfault_run hE r2.2 21 at_ (by decide)
   simp[hk,g4',e3]
   have:=(r2.before kp).then r3
   rw[ht,← Option.or_assoc]
   exact this
omit hE in
theorem REs.later {H0 H:Heap}{S:Nat→Prop}{l:List Ex}{cs:List Value}(k:Same (fun i=>H0.n≤i) H0 H)(h:REs H0 S l cs):REs H S l cs:=REs.move k (fun i hi hl=>⟨hi,by omega⟩) l cs h
def ExI (H0 H:Heap)(rtid cid:Nat)(R:RT)(c:At)(v:Value)(f:Option Flt)(ty:Int)(l:List Ex)(m:Nat)(t:List Value)(K:Heap):Prop :=
 ∃ (k:Nat) (g:Option Flt),k≤l.length∧m=l.length - k∧rd t 6 = .int .i64 k∧RetC H0 H rtid cid c v g K∧g.or (wantB R c ty (l.drop k))=f.or (wantB R c ty l)
theorem kops_run {col:Nat→Nat}{v1 v2 v3 v4 v5 v6:Value}(hR:RRef H0 col rtid v1 v2 v3 v4 v5 v6 R)(hok:ROK R){kind op:Int}(hk:kind=5∨kind=6)(hop:9≤op∧op≤23)(at_ num:Int)(name:ByteArray){sub:List Ex}(hlen:sub.length≤2)(ih:∀ y∈sub,KEx E H0 rtid cid R y)
  {H:Heap} {c:At} {v:Value} {f:Option Flt} {S:Nat→Prop} {id tl:Nat} {cs':List Value} (h:CR H0 H rtid cid c v f) (hid:H0.get id = .row true tl 6 cs') (hrs:REs H0 S sub cs') :
  Gives ((run Tryz.prog E).call 102 [.pointer (some ⟨cid,0,none⟩),.agg ⟨[.int .i64 kind,.int .i64 at_,.int .i64 num,.int .i64 op,.string name,.slice (some ⟨id,0,none⟩) sub.length sub.length]⟩] H) fun o H' =>
   o = .val (.int .i64 (if kind=2 then 2 else if (kind=5∨kind=6)∧15≤op∧op≤23 then 2 else 1))∧RetC H0 H rtid cid c v (f.or (if kind=3 then varB R c name at_ false else if kind=4 then (varB R c name at_ true).or (wantB R c 1 sub)else if kind=5∨kind=6 then wantB R c (opTy op) sub else none)) H':=by
 have kp:Same (fun _=>False) H (H.push (.row true 0 1 [.int .i64 kind,.int .i64 at_,.int .i64 num,.int .i64 op,.string name,.slice (some ⟨id,0,none⟩) sub.length sub.length])):=Same.push _ _ _
 have h1:=h.keep kp
 have hlt:=h.lt
 have g3:(H.push (.row true 0 1 [.int .i64 kind,.int .i64 at_,.int .i64 num,.int .i64 op,.string name,.slice (some ⟨id,0,none⟩) sub.length sub.length])).get H.n = .row true 0 1 [.int .i64 kind,.int .i64 at_,.int .i64 num,.int .i64 op,.string name,.slice (some ⟨id,0,none⟩) sub.length sub.length]:=Heap.get_push_self _ _
 generalize hH1:H.push (.row true 0 1 [.int .i64 kind,.int .i64 at_,.int .i64 num,.int .i64 op,.string name,.slice (some ⟨id,0,none⟩) sub.length sub.length])=H1 at *
 have hne:H.n≠cid:=by omega
 have hidc:id≠cid:=by have:=Heap.lt_of_get hid (by simp);have:=h.hc;omega
 have hl:=exs_len hrs
 have hres:(if kind=3 then varB R c name at_ false else if kind=4 then (varB R c name at_ true).or (wantB R c 1 sub)else if kind=5∨kind=6 then wantB R c (opTy op) sub else none)=wantB R c (opTy op) sub:=by
  rw[if_neg (by omega),if_neg (by omega),if_pos hk]
 rw[hres]
 obtain⟨ty,hq⟩:∃ ty,opTy op=ty:=⟨_,rfl⟩
 have hty:(op=23∧True∧True∧True∧15≤op∧ty=2)∨(op=21∧True∧True∧True∧15≤op∧ty=2)∨(op=22∧True∧True∧True∧15≤op∧ty=2)∨(True∧op≠23∧op≠21∧op≠22∧15≤op∧ty=1)∨(True∧op≠23∧op≠21∧op≠22∧¬15≤op∧ty=1):=by
  unfold opTy at hq
  by_cases h1:op=23
  · rw[if_pos (.inl h1)]at hq;exact .inl ⟨h1,trivial,trivial,trivial,by omega,hq.symm⟩
  · by_cases h2:op=21
    · rw[if_pos (.inr (.inl h2))]at hq;exact .inr (.inl ⟨h2,trivial,trivial,trivial,by omega,hq.symm⟩)
    · by_cases h3:op=22
      · rw[if_pos (.inr (.inr h3))]at hq;exact .inr (.inr (.inl ⟨h3,trivial,trivial,trivial,by omega,hq.symm⟩))
      · rw[if_neg (by omega)]at hq
        by_cases h4:15≤op
        · exact .inr (.inr (.inr (.inl ⟨trivial,h1,h2,h3,h4,hq.symm⟩)))
        · exact .inr (.inr (.inr (.inr ⟨trivial,h1,h2,h3,h4,hq.symm⟩)))
 have h23:op≤23:=hop.2
 rw[c_kexpr hE,callB,bodyOf,hq]
 rcases hk with rfl | rfl<;>rcases hty with⟨rfl,ho1,ho2,ho3,ho4,hq2⟩ | ⟨rfl,ho1,ho2,ho3,ho4,hq2⟩ | ⟨rfl,ho1,ho2,ho3,ho4,hq2⟩ | ⟨_,ho1,ho2,ho3,ho4,hq2⟩ | ⟨_,ho1,ho2,ho3,ho4,hq2⟩
 all_goals
  simp[Tryz.f102,hH1,g3,ho1,ho2,ho3]
  refine loop_mid2 (fun t K=>RetC H0 H1 rtid cid c v (f.or (wantB R c ty sub)) K) (ExI H0 H1 rtid cid R c v f ty sub) sub.length ?_ ?_ ?_
  · exact⟨0,f,Nat.zero_le _,by simp,by simp,⟨Same.refl _ _,h1⟩,by simp⟩
  · rintro m t K hkk ⟨k,g,hkl,rfl,g6,rK,hg⟩
    have ht:t.length=72:=hkk.1.trans (by simp[len_Bs])
    have hh:=hkk.all [0,3,5] (by decide +kernel)
    simp at hh
    obtain⟨u0,u3,u5⟩:=hh
    have g3K:=rK.at g3 (by simp) hne
    have w1:IntKind.i64.wrap ((k:Int)+1)=(k:Int)+1:=wrap64 _ (by omega) (by omega)
    rcases Nat.lt_or_ge k sub.length with hlt | hge
    · have hx:=exs_at hrs k hlt
      have hd:sub.drop k=sub[k] :: sub.drop (k+1):=List.drop_eq_getElem_cons hlt
      rw[hd,wantB]at hg
      obtain⟨H3,e3,r3⟩:=kwant_of hE (ih sub[k] (List.getElem_mem hlt)) ty rK.2 hx
      rw[hq2]at e3
      have hidK:=rK.2.kp.at hid (by simp) (by have:=Heap.lt_of_get hid (by simp);omega)
      have hle:k * 6+6≤cs'.length:=by rw[hl];omega
      simp[ht,u0,u3,u5,g6,g3K,hlt,hidK,hle,e3,w1]
      exact⟨sub.length - (k+1),by omega,k+1,_,by omega,rfl,by simp[ht],rK.then r3,by rw[← hg,Option.or_assoc]⟩
    · have:k=sub.length:=by omega
      subst this
      simp[wantB]at hg
      simp[ht,u0,u3,u5,g6,g3K]
      rw[← hg];exact rK
  · rintro t K hkk rK
    have ht:t.length=72:=hkk.1.trans (by simp[len_Bs])
    have hh:=hkk.all [0,3,5] (by decide +kernel)
    simp at hh
    obtain⟨u0,u3,u5⟩:=hh
    have g3K:=rK.at g3 (by simp) hne
    simp[ht,u0,u3,u5,g3K,ho1,ho2,ho3,ho4,h23]
    exact rK.before kp
theorem kexpr_run (hR':∃ col v1 v2 v3 v4 v5 v6,RRef H0 col rtid v1 v2 v3 v4 v5 v6 R)(hok:ROK R):∀ (n:Nat)(x:Ex),SizeOf.sizeOf x<n→WFx x→KEx E H0 rtid cid R x:=by
 obtain⟨col,v1,v2,v3,v4,v5,v6,hR⟩:=hR'
 intro n
 induction n with
 | zero=>intro x hx;exact absurd hx (Nat.not_lt_zero _)
 | succ n ih =>
 intro x hx hwf H c v f cs S h hc
 suffices key:Gives ((run Tryz.prog E).call 102 [.pointer (some ⟨cid,0,none⟩),.agg ⟨cs⟩] H) fun o H'=>o = .val (.int .i64 (tyP x))∧RetC H0 H rtid cid c v (f.or (exB R c x)) H' by
  obtain⟨o,H',e,rfl,k⟩:=key
  exact⟨H',e,k⟩
 have kp:Same (fun _=>False) H (H.push (.row true 0 1 cs)):=Same.push _ _ _
 have h1:=h.keep kp
 have hlt:=h.lt
 have g3:(H.push (.row true 0 1 cs)).get H.n = .row true 0 1 cs:=Heap.get_push_self _ _
 obtain⟨kind,at_,num,op,name,sub⟩:=x
 simp only[RE]at hc
 obtain⟨w,rfl,hsub⟩:=hc
 have hw:isTuple w=false∧w.cells.toList=[w]:=by rcases hsub with⟨rfl,_⟩ | ⟨id,tl,cs',rfl,_⟩<;>exact⟨rfl,rfl⟩
 simp only[WFx]at hwf
 obtain⟨hshape,_,_,hsubs⟩:=hwf
 have hst:=h.stay kp
 generalize hH1:H.push (.row true 0 1 [.int .i64 kind,.int .i64 at_,.int .i64 num,.int .i64 op,.string name,w])=H1 at *
 rw[c_kexpr hE,callB,bodyOf]
 simp only[exB,tyP]
 have size_sub:∀ (i:Nat) (hi:i<sub.length),SizeOf.sizeOf (sub[i]'hi)<n:=fun i hi=>by
  have:=size_at hi
  simp only[Ex.mk.sizeOf_spec]at hx
  omega
 rcases hshape with⟨rfl,_⟩ | ⟨rfl,_⟩ | ⟨rfl,_⟩ | ⟨rfl,hs,_⟩ | ⟨rfl,hs,_,hop⟩ | ⟨rfl,hs,_,hop⟩
 · simp[Tryz.f102,hw,hH1,g3]
   exact hst
 · simp[Tryz.f102,hw,hH1,g3]
   exact hst
 · obtain⟨H2,e2,r2⟩:=kvar_run hE hR hok h1 name at_ false
   simp[Tryz.f102,hw,hH1,g3,e2]
   exact r2.before kp
 · obtain⟨H2,e2,r2⟩:=kvar_run hE hR hok h1 name at_ true
   have g3':=r2.at g3 (by simp) (by omega)
   rcases hsub with⟨_,hn⟩ | ⟨id,tl,cs',rfl,_,hid,hrs⟩
   · rw[hn]at hs;cases hs
   · obtain⟨y,rfl⟩:=List.length_eq_one_iff.1 hs
     have hl:=exs_len hrs
     have hx0:=exs_at hrs 0 (by simp)
     have wf0:=hsubs.mem y (by simp)
     obtain⟨H3,e3,r3⟩:=kwant_of hE (ih y (size_sub 0 (by simp)) wf0) 1 r2.2 hx0
     have hid2:=r2.2.kp.at hid (by simp) (by have:=Heap.lt_of_get hid (by simp);omega)
     simp at hl
     simp only[List.length_cons,List.length_nil,Nat.zero_add]at hH1 g3 g3'
     have e3':cs'.take 6=cs':=List.take_of_length_le (by omega)
     simp[e3']at e3
     simp[Tryz.f102,hw,hH1,g3,e2,g3',hid2,hl,e3',e3]
     have:=(r2.before kp).then r3
     rw[Option.or_assoc]at this
     simpa [wantB] using this
 · rcases hsub with⟨_,hn⟩ | ⟨id,tl,cs',rfl,_,hid,hrs⟩
   · rw[hn]at hs;cases hs
   · subst hH1
     have:=kops_run hE hR hok (kind:=5) (.inl rfl) (op:=op) (by omega) at_ num name (by omega) (fun y hy=>ih y (by obtain⟨i,hi,rfl⟩:=List.getElem_of_mem hy;exact size_sub i hi) (hsubs.mem y hy)) h hid hrs
     rw[c_kexpr hE,callB,bodyOf]at this
     exact this
 · rcases hsub with⟨_,hn⟩ | ⟨id,tl,cs',rfl,_,hid,hrs⟩
   · rw[hn]at hs;cases hs
   · subst hH1
     have hb:=hop.1
     have hb2:9≤op∧op≤23:=by
      rcases hb with hb | hb<;>omega
     have:=kops_run hE hR hok (kind:=6) (.inr rfl) (op:=op) hb2 at_ num name (by omega) (fun y hy=>ih y (by obtain⟨i,hi,rfl⟩:=List.getElem_of_mem hy;exact size_sub i hi) (hsubs.mem y hy)) h hid hrs
     rw[c_kexpr hE,callB,bodyOf]at this
     exact this
end
theorem itm_cell {H:Heap}{S:Nat→Prop}{v:Value}{l:List Itm}(g:repItm.G H S v l){k:Nat}(hk:k<l.length):∃ id tl cs,v = .slice (some ⟨id,0,none⟩) l.length l.length∧id<H.n∧H.get id = .row true tl 3 cs∧cs.length=l.length * 3∧k * 3+1<l.length * 3∧k * 3+2<l.length * 3 ∧
  (∃ h:k * 3<cs.length,cs[k * 3]'h = .int .i64 l[k].at_)∧(∃ h:k * 3+1<cs.length,cs[k * 3+1]'h = .string l[k].name)∧∃ h:k * 3+2<cs.length,cs[k * 3+2]'h = .int .i64 l[k].n:=by
 obtain⟨id,tl,cs,e1,_,hlt,hrow,hcl,hget,hle⟩:=repItm.G_at g hk
 simp only[repItm]at hget hcl hrow hle
 refine⟨id,tl,cs,e1,hlt,hrow,hcl,by omega,by omega,⟨by omega,?_⟩,⟨by omega,?_⟩,⟨by omega,?_⟩⟩
 · have:cs[k * 3]? = some (.int .i64 l[k].at_):=by
    have:=congrArg (fun q=>q[0]?) hget
    simpa using this
   exact (List.getElem?_eq_some_iff.1 this).2
 · have:cs[k * 3+1]? = some (.string l[k].name):=by
    have:=congrArg (fun q=>q[1]?) hget
    simpa using this
   exact (List.getElem?_eq_some_iff.1 this).2
 · have:cs[k * 3+2]? = some (.int .i64 l[k].n):=by
    have:=congrArg (fun q=>q[2]?) hget
    simpa using this
   exact (List.getElem?_eq_some_iff.1 this).2
theorem q_kitems5:quiet Tryz.prog (drawN Tryz.f24 0)=true:=by decide +kernel
theorem q_kitems9:quiet Tryz.prog (drawN Tryz.f24 1)=true:=by decide +kernel
def KSl (cid:Nat)(w:Value)(k:Nat)(t:List Value):Prop:=t.length=82∧rd t 0 = .pointer (some ⟨cid,0,none⟩)∧rd t 1=w∧rd t 4 = .int .i64 k
def ItI (H0 H:Heap)(rtid cid:Nat)(R:RT)(c:At)(v:Value)(f:Option Flt)(l:List Itm)(m:Nat)(t:List Value)(K:Heap):Prop :=
 ∃ (k:Nat) (g:Option Flt),k≤l.length∧m=l.length - k∧rd t 4 = .int .i64 k∧RetC H0 H rtid cid c v g K∧g.or (itemsB R c.p (l.take k) (l.drop k))=f.or (itemsB R c.p [] l)
def twP (l:List Itm)(k:Nat)(x:Itm):Option Flt:=if ((l.take k).any fun y=>decide (y.name=x.name))=true then some (17,x.at_)else none
def TwI (H0 H:Heap)(rtid cid:Nat)(R:RT)(c:At)(v:Value)(f:Option Flt)(l:List Itm)(i:Nat)(x:Itm)(m:Nat)(t:List Value)(K:Heap):Prop :=
 ∃ k:Nat,k≤i∧m=i - k∧rd t 5 = .int .i64 k∧RetC H0 H rtid cid c v (f.or (twP l k x)) K
theorem twP_succ {l:List Itm}{k:Nat}(hk:k<l.length)(x:Itm):twP l (k+1) x=if l[k].name=x.name then some (17,x.at_)else twP l k x:=by
 unfold twP
 rw[List.take_add_one,List.getElem?_eq_getElem hk,List.any_append]
 by_cases h:l[k].name=x.name<;>simp[h]
def CaI (H0 H:Heap)(rtid cid:Nat)(R:RT)(c:At)(v:Value)(r:Option Flt)(l:List Ex)(m:Nat)(t:List Value)(K:Heap):Prop :=
 ∃ (k:Nat) (g:Option Flt),k≤l.length∧m=l.length - k∧rd t 10 = .int .i64 k∧RetC H0 H rtid cid c v g K∧g.or (wantB R c 1 (l.drop k))=r
section
variable {E:Hooks} (hE:Plain E)
include hE
theorem c_kitems (args:List Value)(H:Heap):(run Tryz.prog E).call 24 args H=callB Tryz.prog E Tryz.f24 args H:=call_B Tryz.func24 rfl (by decide +kernel) (hE.no _ rfl rfl) args H
theorem c_kcall (args:List Value)(H:Heap):(run Tryz.prog E).call 82 args H=callB Tryz.prog E Tryz.f82 args H:=call_B Tryz.func82 rfl (by decide +kernel) (hE.no _ rfl rfl) args H
variable {H0:Heap} {rtid cid:Nat} {v:Value} {c:At} {f:Option Flt} {col:Nat→Nat} {v1 v2 v3 v4 v5 v6:Value} {R:RT} (hR:RRef H0 col rtid v1 v2 v3 v4 v5 v6 R) (hok:ROK R) (hgd:RGood R)
include hR hok hgd
theorem kitems_run {H:Heap}(h:CR H0 H rtid cid c v f){S:Nat→Prop}{w:Value}{l:List Itm}(gl:repItm.G H0 S w l)(hl:l.length≤100000):∃ H',(run Tryz.prog E).call 24 [.pointer (some ⟨cid,0,none⟩),w] H=some (.val (.tuple #[]),H')∧RetC H0 H rtid cid c v (f.or (itemsB R c.p [] l)) H':=by
 suffices key:Gives ((run Tryz.prog E).call 24 [.pointer (some ⟨cid,0,none⟩),w] H) fun o H'=>o = .val (.tuple #[])∧RetC H0 H rtid cid c v (f.or (itemsB R c.p [] l)) H' by
  obtain⟨o,H',e,rfl,k⟩:=key
  exact⟨H',e,k⟩
 obtain⟨b,rfl⟩:=repItm.G_slice gl
 rw[c_kitems hE,callB,bodyOf]
 simp[Tryz.f24]
 refine loop_wp (ItI H0 H rtid cid R c v f l) l.length ?_ ?_
 · exact⟨0,f,Nat.zero_le _,by simp,by simp,⟨Same.refl _ _,h⟩,by simp⟩
 · rintro m t K hkk ⟨k,g,hkl,rfl,g4,rK,hg⟩
   have ht:t.length=82:=hkk.1.trans (by simp[len_Bs])
   have hh:=hkk.all [0,1] (by decide +kernel)
   simp at hh
   obtain⟨u0,u1⟩:=hh
   have e0:=kbad_run hE rK.2
   have w1:IntKind.i64.wrap ((k:Int)+1)=(k:Int)+1:=wrap64 _ (by omega) (by omega)
   rcases Nat.lt_or_ge k l.length with hlt | hge
   · cases g with
     | some q =>
      simp[ht,u0,u1,g4,hlt,e0]
      rw[← hg]
      simpa using rK
     | none =>
      rw[Option.none_or,List.drop_eq_getElem_cons hlt,itemsB]at hg
      obtain⟨id,tl,cs,e1,hid,hrow,hcl,hb1,hb2,⟨hk0,hc0⟩,⟨hk1,hc1⟩,⟨hk2,hc2⟩⟩:=itm_cell gl hlt
      cases e1
      have nid:¬H0.n≤id:=by omega
      generalize hx:l[k]=x at *
      have sl:KSl cid (.slice (some ⟨id,0,none⟩) l.length l.length) k t:=⟨ht,u0,u1,g4⟩
      rw[code_seq,ends_then]
      refine ends_cut (fun t' K'=>KSl cid (.slice (some ⟨id,0,none⟩) l.length l.length) k t'∧K'=K) ?_ ?_
      · simp[ht,u0,u1,g4,hlt,e0]
        exact⟨by simp[ht],by simp[ht,u0],by simp[ht,u1],by simp[ht,g4]⟩
      rintro t1 _ ⟨⟨ht1,a0,a1,a4⟩,rfl⟩
      rw[code_seq,ends_then,code_block,ends_block,code_seq,ends_then]
      have hrK:=rK.2.kp.at hrow (by simp) nid
      refine ends_cut (fun t' K'=>KSl cid (.slice (some ⟨id,0,none⟩) l.length l.length) k t'∧RetC H0 H rtid cid c v (if 6≤k then some (16,x.at_)else none) K') ?_ ?_
      · by_cases c6:6≤k
        · have c6':(6:Int)≤(k:Int):=by omega
          obtain⟨K2,e2,r2⟩:=kfault_run hE rK.2 16 x.at_ (by decide)
          simp[ht1,a0,a1,a4,c6,c6',hlt,hrK,hcl,hc0,e2]
          exact⟨⟨by simp[ht1],by simp[ht1,a0],by simp[ht1,a1],by simp[ht1,a4]⟩,by simpa using rK.then r2⟩
        · have c6':¬(6:Int)≤(k:Int):=by omega
          simp[ht1,a0,a1,a4,c6,c6']
          exact⟨⟨by simp[ht1],by simp[ht1,a0],by simp[ht1,a1],by simp[ht1,a4]⟩,rK⟩
      rintro t2 K2 ⟨⟨ht2,b0,b1,b4⟩,r2⟩
      generalize hg1:(if 6≤k then some (16,x.at_)else none:Option Flt)=g1 at *
      rw[code_seq,ends_then]
      have hr2:=r2.2.kp.at hrow (by simp) nid
      refine ends_cut (fun t' K'=>KSl cid (.slice (some ⟨id,0,none⟩) l.length l.length) k t'∧RetC H0 H rtid cid c v (g1.or (mustB R c.p x.name x.at_ 1)) K') ?_ ?_
      · refine region_quiet (by exact q_kitems5) ?_
        obtain⟨K3,e3,r3⟩:=kglobal_run hE hR hok hgd r2.2 x.name x.at_ 1 (by decide)
        rw[if_neg (by decide)]at r3
        simp[ht2,b0,b1,b4,hlt,hr2,hcl,hb1,hc0,hc1,e3]
        exact⟨⟨by simp[ht2],by simp[ht2,b0],by simp[ht2,b1],by simp[ht2,b4]⟩,r2.then r3⟩
      rintro t3 K3 ⟨⟨ht3,d0,d1,d4⟩,r3⟩
      rw[code_seq,ends_then]
      refine ends_cut (fun t' K'=>KSl cid (.slice (some ⟨id,0,none⟩) l.length l.length) k t'∧RetC H0 H rtid cid c v ((g1.or (mustB R c.p x.name x.at_ 1)).or (twP l k x)) K') ?_ ?_
      · generalize (g1.or (mustB R c.p x.name x.at_ 1))=g2 at *
        simp[ht3,d0,d1,d4]
        refine loop_wp (TwI H0 H rtid cid R c v g2 l k x) k ?_ ?_
        · exact⟨0,Nat.zero_le _,by simp,by simp[ht3],by simpa [twP] using r3⟩
        · rintro m t K6 hkk ⟨j,hjk,rfl,g5,rJ⟩
          have ht:t.length=82:=hkk.1.trans (by simp[ht3])
          have hh:=hkk.all [0,1,4] (by decide +kernel)
          simp[ht3,d0,d1,d4]at hh
          obtain⟨u0,u1,u4⟩:=hh
          have w2:IntKind.i64.wrap ((j:Int)+1)=(j:Int)+1:=wrap64 _ (by omega) (by omega)
          rcases Nat.lt_or_ge j k with hjlt | hjge
          · have hjl:j<l.length:=by omega
            obtain⟨id',tl',cs',e1',_,hrow',hcl',hb1',hb2',⟨hk0',hc0'⟩,⟨hk1',hc1'⟩,⟨hk2',hc2'⟩⟩:=itm_cell gl hjl
            cases e1'
            rw[hrow]at hrow'
            cases hrow'
            have hrJ:=rJ.2.kp.at hrow (by simp) nid
            have hs:=twP_succ hjl x
            generalize l[j]=y at *
            simp[ht,u0,u1,u4,g5,hjlt]
            refine region_quiet (by exact q_kitems9) ?_
            by_cases hn:y.name=x.name
            · obtain⟨K7,e7,r7⟩:=kfault_run hE rJ.2 17 x.at_ (by decide)
              simp[ht,u0,u1,u4,g5,hjlt,hjl,hlt,hrJ,hcl,hb1,hb1',hc0,hc1,hc1',hn,e7,w2]
              refine⟨k - (j+1),by omega,j+1,by omega,rfl,by simp[ht],?_⟩
              rw[hs,if_pos hn]
              have:=rJ.then r7
              unfold twP at this
              split at this<;>simpa using this
            · simp[ht,u0,u1,u4,g5,hjlt,hjl,hlt,hrJ,hcl,hb1,hb1',hc0,hc1,hc1',hn,w2]
              refine⟨k - (j+1),by omega,j+1,by omega,rfl,by simp[ht],?_⟩
              rw[hs,if_neg hn]
              exact rJ
          · have:j=k:=by omega
            subst this
            simp[ht,u0,u1,u4,g5]
            exact⟨⟨by simp[ht],by simp[ht,u0],by simp[ht,u1],by simp[ht,u4]⟩,rJ⟩
      rintro t4 K4 ⟨⟨ht4,d0,d1,d4⟩,r4⟩
      have hr4:=r4.2.kp.at hrow (by simp) nid
      have hitem:itemB R c.p (l.take k) x=(g1.or (mustB R c.p x.name x.at_ 1)).or ((twP l k x).or (if x.n<1∨1000<x.n then some (24,x.at_)else none)):=by
       unfold itemB twP
       rw[List.length_take,Nat.min_eq_left (by omega),hg1,Option.or_assoc]
      have htk:l.take (k+1)=l.take k++[x]:=by rw[List.take_add_one,List.getElem?_eq_getElem hlt,hx];rfl
      rw[← htk,hitem,← Option.or_assoc]at hg
      generalize (g1.or (mustB R c.p x.name x.at_ 1)).or (twP l k x)=g3 at *
      by_cases n1:x.n<1
      · obtain⟨K7,e7,r7⟩:=kfault_run hE r4.2 24 x.at_ (by decide)
        simp[ht4,d0,d1,d4,hlt,hr4,hcl,hb1,hb2,hc0,hc2,n1,e7,w1]
        rw[if_pos (.inl n1)]at hg
        exact⟨l.length - (k+1),by omega,k+1,_,by omega,rfl,by simp[ht4],r4.then r7,hg⟩
      · by_cases n2:1000<x.n
        · obtain⟨K7,e7,r7⟩:=kfault_run hE r4.2 24 x.at_ (by decide)
          simp[ht4,d0,d1,d4,hlt,hr4,hcl,hb1,hb2,hc0,hc2,n1,n2,e7,w1]
          rw[if_pos (.inr n2)]at hg
          exact⟨l.length - (k+1),by omega,k+1,_,by omega,rfl,by simp[ht4],r4.then r7,hg⟩
        · simp[ht4,d0,d1,d4,hlt,hr4,hcl,hb1,hb2,hc0,hc2,n1,n2,w1]
          rw[if_neg (by omega),Option.or_none]at hg
          exact⟨l.length - (k+1),by omega,k+1,_,by omega,rfl,by simp[ht4],r4,hg⟩
   · have:k=l.length:=by omega
     subst this
     simp[itemsB]at hg
     simp[ht,u0,u1,g4]
     rw[← hg];exact rK
omit hgd in
theorem kwant_all {x:Ex}(hx:WFx x):KWa E H0 rtid cid R x:=kwant_of hE (kexpr_run hE ⟨col,v1,v2,v3,v4,v5,v6,hR⟩ hok _ x (Nat.lt_succ_self _) hx)
theorem kcall_run {H:Heap}(h:CR H0 H rtid cid c v f)(x:ByteArray)(a:Int){S:Nat→Prop}{w:Value}{l:List Ex}(gl:repEx.G H0 S w l)(hwf:WFxs l)(hl:l.length≤100000):∃ H',(run Tryz.prog E).call 82 [.pointer (some ⟨cid,0,none⟩),.string x,.int .i64 a,w] H=some (.val (.tuple #[]),H')∧RetC H0 H rtid cid c v (f.or (callT R c x a l)) H':=by
 suffices key:Gives ((run Tryz.prog E).call 82 [.pointer (some ⟨cid,0,none⟩),.string x,.int .i64 a,w] H) fun o H'=>o = .val (.tuple #[])∧RetC H0 H rtid cid c v (f.or (callT R c x a l)) H' by
  obtain⟨o,H',e,rfl,k⟩:=key
  exact⟨H',e,k⟩
 obtain⟨b,rfl⟩:=repEx.G_slice gl
 obtain⟨K1,e1,r1⟩:=kglobal_run hE hR hok hgd h x a 0 (by decide)
 rw[if_pos rfl]at r1
 have e2:=kbad_run hE r1.2
 have e3:=rprocN_run hE (CR.tab hR r1.2) hok x
 rw[rIdx_prc]at e3
 have e4:=rhead_run hE (CR.tab hR r1.2) hok (prcOf R x)
 have g1:=r1.2.obj
 simp only[ck6]at g1
 have hcall:f.or (callT R c x a l)=(f.or (mustB R c.p x a (-2))).or ((if (l.length:Int)=rheadAt R (prcOf R x)then none else some (20,a)).or (wantB R c 1 l)):=by
  unfold callT
  rw[Option.or_assoc]
 rw[hcall]
 generalize f.or (mustB R c.p x a (-2))=g at *
 rw[c_kcall hE,callB,bodyOf]
 cases g with
 | some q =>
  simp[Tryz.f82,e1,e2]
  simpa using r1
 | none =>
  simp only[Option.none_or]
  simp[Tryz.f82,e1,e2,g1,e3,e4]
  by_cases hn:(l.length:Int)=rheadAt R (prcOf R x)
  · have st:RetC H0 H rtid cid c v (if (l.length:Int)=rheadAt R (prcOf R x)then none else some (20,a)) K1:=by rw[if_pos hn];exact r1
    generalize (if (l.length:Int)=rheadAt R (prcOf R x)then none else some (20,a):Option Flt)=g1 at *
    simp[hn]
    refine loop_wp (CaI H0 H rtid cid R c v (g1.or (wantB R c 1 l)) l) l.length ?_ ?_
    · exact⟨0,g1,Nat.zero_le _,by simp,by simp,st,by simp⟩
    · rintro m t K hkk ⟨k,g,hkl,rfl,g10,rK,hg⟩
      have ht:t.length=50:=hkk.1.trans (by simp[len_Bs])
      have hh:=hkk.all [0,3] (by decide +kernel)
      simp at hh
      obtain⟨u0,u3⟩:=hh
      have w1:IntKind.i64.wrap ((k:Int)+1)=(k:Int)+1:=wrap64 _ (by omega) (by omega)
      rcases Nat.lt_or_ge k l.length with hlt | hge
      · obtain⟨id,tl,cs,e1',_,hid,hrow,hcl,hget,hle⟩:=repEx.G_at gl hlt
        cases e1'
        rw[List.drop_eq_getElem_cons hlt,wantB]at hg
        have wfy:=hwf.mem _ (List.getElem_mem hlt)
        generalize l[k]=y at *
        simp only[repEx]at hget hcl hrow hle
        have hrK:=rK.2.kp.at hrow (by simp) (by omega)
        obtain⟨K5,e6,r6⟩:=kwant_all hE hR hok wfy 1 rK.2 hget
        simp[ht,u0,u3,g10,hlt,hrK,hcl,hle,e6,w1]
        exact⟨l.length - (k+1),by omega,k+1,_,by omega,rfl,by simp[ht],rK.then r6,by rw[← hg,Option.or_assoc]⟩
      · have:k=l.length:=by omega
        subst this
        simp[wantB]at hg
        simp[ht,u0,u3,g10]
        rw[← hg];exact rK
  · obtain⟨K2,e5,r5⟩:=kfault_run hE r1.2 20 a (by decide)
    have st:RetC H0 H rtid cid c v (if (l.length:Int)=rheadAt R (prcOf R x)then none else some (20,a)) K2:=by rw[if_neg hn];exact r1.then r5
    generalize (if (l.length:Int)=rheadAt R (prcOf R x)then none else some (20,a):Option Flt)=g1 at *
    simp[hn,e5]
    refine loop_wp (CaI H0 H rtid cid R c v (g1.or (wantB R c 1 l)) l) l.length ?_ ?_
    · exact⟨0,g1,Nat.zero_le _,by simp,by simp,st,by simp⟩
    · rintro m t K hkk ⟨k,g,hkl,rfl,g10,rK,hg⟩
      have ht:t.length=50:=hkk.1.trans (by simp[len_Bs])
      have hh:=hkk.all [0,3] (by decide +kernel)
      simp at hh
      obtain⟨u0,u3⟩:=hh
      have w1:IntKind.i64.wrap ((k:Int)+1)=(k:Int)+1:=wrap64 _ (by omega) (by omega)
      rcases Nat.lt_or_ge k l.length with hlt | hge
      · obtain⟨id,tl,cs,e1',_,hid,hrow,hcl,hget,hle⟩:=repEx.G_at gl hlt
        cases e1'
        rw[List.drop_eq_getElem_cons hlt,wantB]at hg
        have wfy:=hwf.mem _ (List.getElem_mem hlt)
        generalize l[k]=y at *
        simp only[repEx]at hget hcl hrow hle
        have hrK:=rK.2.kp.at hrow (by simp) (by omega)
        obtain⟨K5,e6,r6⟩:=kwant_all hE hR hok wfy 1 rK.2 hget
        simp[ht,u0,u3,g10,hlt,hrK,hcl,hle,e6,w1]
        exact⟨l.length - (k+1),by omega,k+1,_,by omega,rfl,by simp[ht],rK.then r6,by rw[← hg,Option.or_assoc]⟩
      · have:k=l.length:=by omega
        subst this
        simp[wantB]at hg
        simp[ht,u0,u3,g10]
        rw[← hg];exact rK
end
theorem cutA_pre {H:Heap}{id tl:Nat}{cs:List Value}(hg:H.get id = .row true tl 3 cs){n k:Nat}(hk:k≤n):cutA id 0 n n 3 none (some (.int .i64 k)) none H=some (.slice (some ⟨id,0,none⟩) k n,H):=by
 have hk':(k:Int)≤n:=by omega
 cases tl<;>simp[cutA,boundOf,hg,hk,hk']
def anyN (l:List Itm)(x:Itm):Bool:=l.any fun y=>decide (y.name=x.name)
theorem anyN_cons (y:Itm)(l:List Itm)(x:Itm):anyN (y :: l) x=(decide (y.name=x.name) || anyN l x):=rfl
section
variable {E:Hooks} (hE:Plain E)
include hE
theorem c_titem1 (args:List Value)(H:Heap):(run Tryz.prog E).call 55 args H=callB Tryz.prog E Tryz.f55 args H:=call_B Tryz.func55 rfl (by decide +kernel) (hE.no _ rfl rfl) args H
theorem titem1_run {H:Heap}{xid:Nat}{x:Itm}(g:H.get xid = .row true 0 1 [.int .i64 x.at_,.string x.name,.int .i64 x.n])(y:Itm) :
  ∃ H',(run Tryz.prog E).call 55 [.agg ⟨[.int .i64 y.at_,.string y.name,.int .i64 y.n]⟩,.pointer (some ⟨xid,0,none⟩)] H=some (.val (.bool (decide (y.name=x.name))),H')∧Same (fun _=>False) H H':=by
 suffices key:Gives ((run Tryz.prog E).call 55 [.agg ⟨[.int .i64 y.at_,.string y.name,.int .i64 y.n]⟩,.pointer (some ⟨xid,0,none⟩)] H) fun o H'=>o = .val (.bool (decide (y.name=x.name)))∧Same (fun _=>False) H H' by
  obtain⟨o,H',e,rfl,k⟩:=key
  exact⟨H',e,k⟩
 have kp:Same (fun _=>False) H (H.push (.row true 0 1 [.int .i64 y.at_,.string y.name,.int .i64 y.n])):=Same.push _ _ _
 have g1:=kp.at g (by simp) (fun h=>h)
 rw[c_titem1 hE,callB,bodyOf]
 simp[Tryz.f55,g1]
 exact kp
theorem c_tindexf (args:List Value)(H:Heap):(run Tryz.prog E).call 79 args H=callB Tryz.prog E Tryz.f79 args H:=call_B Tryz.func79 rfl (by decide +kernel) (hE.no _ rfl rfl) args H
theorem c_tcontf (args:List Value)(H:Heap):(run Tryz.prog E).call 54 args H=callB Tryz.prog E Tryz.f54 args H:=call_B Tryz.func54 rfl (by decide +kernel) (hE.no _ rfl rfl) args H
theorem tindexf_run {H:Heap}{xid:Nat}{x:Itm}(g:H.get xid = .row true 0 1 [.int .i64 x.at_,.string x.name,.int .i64 x.n]){S:Nat→Prop}{b:Option Addr}{l:List Itm}(gl:repItm.G H S (.slice b l.length l.length) l){n cap:Nat}(hn:n≤l.length)(hl:l.length≤100000) :
  ∃ (r:Int) (H':Heap),(run Tryz.prog E).call 79 [.slice b n cap,.func (.func 55) ⟨[]⟩ ⟨[.pointer (some ⟨xid,0,none⟩)]⟩] H=some (.val (.int .i64 r),H')∧Same (fun _=>False) H H'∧decide (0≤r)=anyN (l.take n) x:=by
 suffices key:Gives ((run Tryz.prog E).call 79 [.slice b n cap,.func (.func 55) ⟨[]⟩ ⟨[.pointer (some ⟨xid,0,none⟩)]⟩] H) fun o H'=>∃ r:Int,o = .val (.int .i64 r)∧Same (fun _=>False) H H'∧decide (0≤r)=anyN (l.take n) x by
  obtain⟨o,H',e,r,rfl,k⟩:=key
  exact⟨r,H',e,k⟩
 rw[c_tindexf hE,callB,bodyOf]
 simp[Tryz.f79]
 refine loop_mid2 (fun t K=>Same (fun _=>False) H K∧(anyN (l.take n) x)=false) (fun m t K=>Same (fun _=>False) H K∧∃ k,k≤n∧m=n - k∧rd t 8 = .int .i64 k∧(anyN (l.take n) x)=anyN ((l.take n).drop k) x) n ?_ ?_ ?_
 · exact⟨Same.refl _ _,0,Nat.zero_le _,by simp,by simp,by simp⟩
 · rintro m t K hk ⟨kK,k,hkn,rfl,g8,hf⟩
   have ht:t.length=19:=hk.1.trans (by simp[len_Bs])
   have hh:=hk.all [0,1,7] (by decide +kernel)
   simp at hh
   obtain⟨u0,u1,u7⟩:=hh
   have w1:IntKind.i64.wrap ((k:Int)+1)=(k:Int)+1:=wrap64 _ (by omega) (by omega)
   rcases Nat.lt_or_ge k n with hlt | hge
   · have hkl:k<l.length:=by omega
     obtain⟨id,tl,cs,e1,_,_,hrow,hcl,hget,hle⟩:=repItm.G_at gl hkl
     cases e1
     simp only[repItm]at hget hcl hrow hle
     have hd:(l.take n).drop k=l[k] :: (l.take n).drop (k+1):=by
      rw[List.drop_eq_getElem_cons (by rw[List.length_take];omega),List.getElem_take]
     rw[hd,anyN_cons]at hf
     have gK:=kK.at g (by simp) (fun h=>h)
     have hrK:=kK.at hrow (by simp) (fun h=>h)
     obtain⟨K2,e2,k2⟩:=titem1_run hE gK l[k]
     have k2':=kK.trans k2
     generalize l[k]=y at *
     by_cases hy:y.name=x.name
     · rw[decide_eq_true hy]at e2 hf
       simp[ht,u0,u1,u7,g8,hlt,hrK,hcl,hle,hget,e2]
       exact⟨k2',by simpa using hf⟩
     · rw[decide_eq_false hy]at e2 hf
       simp[ht,u0,u1,u7,g8,hlt,hrK,hcl,hle,hget,e2,w1]
       exact⟨n - (k+1),by omega,k2',k+1,by omega,rfl,by simp[ht],by simpa using hf⟩
   · have:k=n:=by omega
     subst this
     rw[List.drop_eq_nil_of_le (by rw[List.length_take];omega)]at hf
     simp[ht,u0,u1,u7,g8]
     exact⟨kK,hf⟩
 · rintro t K hk ⟨kK,hf⟩
   have ht:t.length=19:=hk.1.trans (by simp[len_Bs])
   simp[ht]
   exact⟨kK,hf⟩
theorem tcontf_run {H:Heap}{xid:Nat}{x:Itm}(g:H.get xid = .row true 0 1 [.int .i64 x.at_,.string x.name,.int .i64 x.n]){S:Nat→Prop}{b:Option Addr}{l:List Itm}(gl:repItm.G H S (.slice b l.length l.length) l){n cap:Nat}(hn:n≤l.length)(hl:l.length≤100000) :
  ∃ H':Heap,(run Tryz.prog E).call 54 [.slice b n cap,.func (.func 55) ⟨[]⟩ ⟨[.pointer (some ⟨xid,0,none⟩)]⟩] H=some (.val (.bool (anyN (l.take n) x)),H')∧Same (fun _=>False) H H':=by
 suffices key:Gives ((run Tryz.prog E).call 54 [.slice b n cap,.func (.func 55) ⟨[]⟩ ⟨[.pointer (some ⟨xid,0,none⟩)]⟩] H) fun o H'=>o = .val (.bool (anyN (l.take n) x))∧Same (fun _=>False) H H' by
  obtain⟨o,H',e,rfl,k⟩:=key
  exact⟨H',e,k⟩
 obtain⟨r,K,e,k,hr⟩:=tindexf_run hE g gl (cap:=cap) hn hl
 rw[c_tcontf hE,callB,bodyOf]
 rw[← hr]
 simp[Tryz.f54,e]
 exact k
theorem c_titems (args:List Value)(H:Heap):(run Tryz.prog E).call 21 args H=callB Tryz.prog E Tryz.f21 args H:=call_B Tryz.func21 rfl (by decide +kernel) (hE.no _ rfl rfl) args H
variable {H0:Heap} {tid cid:Nat} {R:RT} {v:Value} {c:At} {col:Nat→Nat} {nid pid rid:Nat} {v1 v2 v3 v4 v5:Value} {T:Tab} (hT:RTab H0 col tid nid pid rid v1 v2 v3 v4 v5 T) (ha:Scope.Agree T R) (hok:TOK T) (hgd:RGood R)
include hT ha hok hgd
theorem titems_run {H:Heap}(h:CT H0 H tid cid c v){S:Nat→Prop}{w:Value}{l:List Itm}(gl:repItm.G H0 S w l)(hl:l.length≤100000) :
  ∃ H',(run Tryz.prog E).call 21 [.pointer (some ⟨cid,0,none⟩),w] H=some (outF (itemsB R c.p [] l),H')∧Same (fun _=>False) H H':=by
 suffices key:Gives ((run Tryz.prog E).call 21 [.pointer (some ⟨cid,0,none⟩),w] H) fun o H'=>o=outF (itemsB R c.p [] l)∧Same (fun _=>False) H H' by
  obtain⟨o,H',e,rfl,k⟩:=key
  exact⟨H',e,k⟩
 obtain⟨b,rfl⟩:=repItm.G_slice gl
 rw[c_titems hE,callB,bodyOf]
 simp[Tryz.f21]
 refine loop_wp (fun m t K=>∃ k,k≤l.length∧m=l.length - k∧rd t 8 = .int .i64 k∧Same (fun _=>False) H K∧itemsB R c.p (l.take k) (l.drop k)=itemsB R c.p [] l) l.length ?_ ?_
 · exact⟨0,Nat.zero_le _,by simp,by simp,Same.refl _ _,by simp⟩
 · rintro m t K hkk ⟨k,hkl,rfl,g8,kK,hg⟩
   have ht:t.length=44:=hkk.1.trans (by simp[len_Bs])
   have hh:=hkk.all [0,1,6,7] (by decide +kernel)
   simp at hh
   obtain⟨u0,u1,u6,u7⟩:=hh
   have w1:IntKind.i64.wrap ((k:Int)+1)=(k:Int)+1:=wrap64 _ (by omega) (by omega)
   rcases Nat.lt_or_ge k l.length with hlt | hge
   · obtain⟨id,tl,cs,e1,_,hid,hrow,hcl,hget,hle⟩:=repItm.G_at gl hlt
     cases e1
     simp only[repItm]at hget hcl hrow hle
     rw[List.drop_eq_getElem_cons hlt,itemsB]at hg
     have hx:l[k]? = some l[k]:=List.getElem?_eq_getElem hlt
     have hK:=h.keep kK
     have hrK:=hK.kp.at hrow (by simp) (by omega)
     generalize l[k]=x at *
     have kq:Same (fun _=>False) K (K.push (.row true 0 1 [.int .i64 x.at_,.string x.name,.int .i64 x.n])):=Same.push _ _ _
     have g5:(K.push (.row true 0 1 [.int .i64 x.at_,.string x.name,.int .i64 x.n])).get K.n = .row true 0 1 [.int .i64 x.at_,.string x.name,.int .i64 x.n]:=Heap.get_push_self _ _
     have hitem:itemB R c.p (l.take k) x=(if 6≤k then some (16,x.at_)else none).or ((mustB R c.p x.name x.at_ 1).or ((if anyN (l.take k) x=true then some (17,x.at_)else none).or (if x.n<1∨1000<x.n then some (24,x.at_)else none))):=by
      unfold itemB anyN
      rw[List.length_take,Nat.min_eq_left (by omega)]
     have htk:l.take (k+1)=l.take k++[x]:=by rw[List.take_add_one,hx];rfl
     rw[← htk,hitem]at hg
     simp[ht,u0,u1,u6,u7,g8,hlt,hrK,hcl,hle,hget]
     generalize K.push (.row true 0 1 [.int .i64 x.at_,.string x.name,.int .i64 x.n])=Kp at *
     have kp:=kK.trans kq
     by_cases c6:6≤k
     · have c6':(6:Int)≤(k:Int):=by omega
       have ef:=tfail_run hE 16 x.at_ Kp
       rw[if_pos c6]at hg
       simp[ht,u0,u1,u6,u7,c6',g5,ef]
       rw[← hg]
       exact⟨rfl,kp⟩
     have c6':¬(6:Int)≤(k:Int):=by omega
     rw[if_neg c6,Option.none_or]at hg
     obtain⟨o1,K1,e1,k1,ho1⟩:=tmust_run hE hT ha hok hgd (hK.keep kq) x.name x.at_ 1 (.inr (by decide))
     subst ho1
     cases hm:mustB R c.p x.name x.at_ 1 with
     | some q =>
      rw[hm]at e1 hg
      simp[ht,u0,u1,u6,u7,c6',g5,e1]
      rw[← hg]
      exact⟨rfl,kp.trans k1⟩
     | none =>
      rw[hm,Option.none_or]at hg
      rw[hm]at e1
      have g51:=k1.at g5 (by simp) (fun h=>h)
      have gl1:=repItm.G_move ((hK.keep kq).keep k1).kp (S':=S) (fun i hi hl=>⟨hi,by omega⟩) gl
      obtain⟨K2,e2,k2⟩:=tcontf_run hE g51 gl1 (n:=k) (cap:=l.length) hkl hl
      have g52:=k2.at g51 (by simp) (fun h=>h)
      have k3:=kp.trans (k1.trans k2)
      simp[ht,u0,u1,u6,u7,c6',g5,e1]
      have hr1:=k1.at (kq.at hrK (by simp) (fun h=>h)) (by simp) (fun h=>h)
      rw[cutA_pre hr1 hkl]
      simp[ht,u0,u1,u6,u7,g52,e2]
      by_cases ca:anyN (l.take k) x=true
      · have ef:=tfail_run hE 17 x.at_ K2
        rw[if_pos ca]at hg
        simp[ht,u0,u1,u6,u7,ca,g52,ef]
        rw[← hg]
        exact⟨rfl,k3⟩
      · rw[if_neg ca,Option.none_or]at hg
        by_cases n1:x.n<1
        · have ef:=tfail_run hE 24 x.at_ K2
          rw[if_pos (.inl n1)]at hg
          simp[ht,u0,u1,u6,u7,ca,n1,g52,ef]
          rw[← hg]
          exact⟨rfl,k3⟩
        · by_cases n2:1000<x.n
          · have ef:=tfail_run hE 24 x.at_ K2
            rw[if_pos (.inr n2)]at hg
            simp[ht,u0,u1,u6,u7,ca,n1,n2,g52,ef]
            rw[← hg]
            exact⟨rfl,k3⟩
          · rw[if_neg (by omega),Option.none_or]at hg
            simp[ht,u0,u1,u6,u7,g8,ca,n1,n2,g52,w1]
            exact⟨l.length - (k+1),by omega,k+1,by omega,rfl,by simp[ht],k3,hg⟩
   · have:k=l.length:=by omega
     subst this
     simp[itemsB]at hg
     simp[ht,u0,u1,u6,u7,g8]
     rw[← hg];exact⟨rfl,kK⟩
end
section
variable {E:Hooks} (hE:Plain E)
include hE
theorem c_tbras (args:List Value)(H:Heap):(run Tryz.prog E).call 76 args H=callB Tryz.prog E Tryz.f76 args H:=call_B Tryz.func76 rfl (by decide +kernel) (hE.no _ rfl rfl) args H
variable {H0:Heap} {tid cid:Nat} {R:RT} {v:Value} {c:At} {col:Nat→Nat} {nid pid rid:Nat} {v1 v2 v3 v4 v5:Value} {T:Tab} (hT:RTab H0 col tid nid pid rid v1 v2 v3 v4 v5 T) (ha:Scope.Agree T R) (hok:TOK T) (hgd:RGood R)
include hT ha hok hgd
theorem tbras_run {H:Heap}(h:CT H0 H tid cid c v){S:Nat→Prop}{w:Value}{l:List Bra}(gl:repBra.G H0 S w l)(hl:l.length≤100000)(hsz:∀ q∈l,q.args.length≤100000∧q.claims.length≤100000)(hwf:∀ q∈l,BraOK q) :
  ∃ H',(run Tryz.prog E).call 76 [.pointer (some ⟨cid,0,none⟩),w] H=some (outF (brasB R c 0 l),H')∧Same (fun _=>False) H H':=by
 suffices key:Gives ((run Tryz.prog E).call 76 [.pointer (some ⟨cid,0,none⟩),w] H) fun o H'=>o=outF (brasB R c 0 l)∧Same (fun _=>False) H H' by
  obtain⟨o,H',e,rfl,k⟩:=key
  exact⟨H',e,k⟩
 obtain⟨b,rfl⟩:=repBra.G_slice gl
 rw[c_tbras hE,callB,bodyOf]
 simp[Tryz.f76]
 refine loop_wp (fun m t K=>∃ k,k≤l.length∧m=l.length - k∧rd t 8 = .int .i64 k∧Same (fun _=>False) H K∧brasB R c k (l.drop k)=brasB R c 0 l) l.length ?_ ?_
 · exact⟨0,Nat.zero_le _,by simp,by simp,Same.refl _ _,by simp⟩
 · rintro m t K hkk ⟨k,hkl,rfl,g8,kK,hg⟩
   have ht:t.length=31:=hkk.1.trans (by simp[len_Bs])
   have hh:=hkk.all [0,6,7] (by decide +kernel)
   simp at hh
   obtain⟨u0,u6,u7⟩:=hh
   have w1:IntKind.i64.wrap ((k:Int)+1)=(k:Int)+1:=wrap64 _ (by omega) (by omega)
   rcases Nat.lt_or_ge k l.length with hlt | hge
   · obtain⟨id,tl,cs,e1,_,hid,hrow,hcl,hget,hle⟩:=repBra.G_at gl hlt
     cases e1
     rw[List.drop_eq_getElem_cons hlt,brasB]at hg
     have wfb:=hwf _ (List.getElem_mem hlt)
     have szq:=hsz _ (List.getElem_mem hlt)
     have hK:=h.keep kK
     generalize l[k]=q at *
     obtain⟨z1,z2,hq,ga,gc⟩:=hget
     have hcl':cs.length=l.length * 4:=hcl
     have hle':k * 4+4≤l.length * 4:=hle
     have hrow':H0.get id = .row true tl 4 cs:=hrow
     have hq':List.take 4 (List.drop (k * 4) cs)=[.int .i64 q.at_,.string q.name,z1,z2]:=hq
     obtain⟨bz1,rfl⟩:=repEx.G_slice ga
     obtain⟨bz2,rfl⟩:=repItm.G_slice gc
     have hrK:=hK.kp.at hrow' (by simp) (by omega)
     have kq:Same (fun _=>False) K (K.push (.row true 0 1 [.int .i64 q.at_,.string q.name,.slice bz1 q.args.length q.args.length,.slice bz2 q.claims.length q.claims.length])):=Same.push _ _ _
     have g5:(K.push (.row true 0 1 [.int .i64 q.at_,.string q.name,.slice bz1 q.args.length q.args.length,.slice bz2 q.claims.length q.claims.length])).get K.n = .row true 0 1 [.int .i64 q.at_,.string q.name,.slice bz1 q.args.length q.args.length,.slice bz2 q.claims.length q.claims.length]:=Heap.get_push_self _ _
     simp[ht,u0,u6,u7,g8,hlt,hrK,hcl',hle',hq']
     generalize K.push (.row true 0 1 [.int .i64 q.at_,.string q.name,.slice bz1 q.args.length q.args.length,.slice bz2 q.claims.length q.claims.length])=Kp at *
     have kp:=kK.trans kq
     unfold braB at hg
     by_cases c8:8≤k
     · have c8':(8:Int)≤(k:Int):=by omega
       have ef:=tfail_run hE 16 q.at_ Kp
       rw[if_pos c8]at hg
       simp[ht,u0,u6,u7,c8',g5,ef]
       rw[← hg]
       exact⟨rfl,kp⟩
     have c8':¬(8:Int)≤(k:Int):=by omega
     rw[if_neg c8,Option.none_or]at hg
     obtain⟨K1,e1,k1⟩:=tcall_run hE hT ha hok hgd (hK.keep kq) q.name q.at_ (LX.of ga) szq.1 wfb.1
     have g51:=k1.at g5 (by simp) (fun h=>h)
     obtain⟨K2,e2,k2⟩:=titems_run hE hT ha hok hgd ((hK.keep kq).keep k1) gc szq.2
     cases hc:callT R c q.name q.at_ q.args with
     | some z =>
      rw[hc]at e1 hg
      simp only[outF]at e1
      simp[ht,u0,u6,u7,c8',g5,e1]
      rw[← hg]
      exact⟨rfl,kp.trans k1⟩
     | none =>
      rw[hc,Option.none_or]at hg
      rw[hc]at e1
      simp only[outF]at e1
      cases hi:itemsB R c.p [] q.claims with
      | some z =>
       rw[hi]at e2 hg
       simp only[outF]at e2
       simp[ht,u0,u6,u7,c8',g5,e1,g51,e2]
       rw[← hg]
       exact⟨rfl,kp.trans (k1.trans k2)⟩
      | none =>
       rw[hi,Option.none_or]at hg
       rw[hi]at e2
       simp only[outF]at e2
       simp[ht,u0,u6,u7,g8,c8',g5,e1,g51,e2,w1]
       exact⟨l.length - (k+1),by omega,k+1,by omega,rfl,by simp[ht],kp.trans (k1.trans k2),hg⟩
   · have:k=l.length:=by omega
     subst this
     simp[brasB]at hg
     simp[ht,u0,u6,u7,g8]
     rw[← hg];exact⟨rfl,kK⟩
end
theorem szXs_len:∀ l:List Ex,l.length≤szXs l
 | []=>Nat.zero_le _
 | .mk _ _ _ _ _ _ :: l=>by have:=szXs_len l;simp only[szXs,szX,List.length_cons];omega
theorem szSs_len:∀ l:List Stm,l.length≤szSs l
 | []=>Nat.zero_le _
 | .mk _ _ _ _ _ _ _ _ :: l=>by have:=szSs_len l;simp only[szSs,szS,List.length_cons];omega
theorem szSs_mem {b:Stm}:∀ {l:List Stm},b∈l→szS b≤szSs l
 | a :: l, h => by
  simp only[szSs]
  rcases List.mem_cons.1 h with rfl | h
  · omega
  · have:=szSs_mem h;omega
theorem szBs_len:∀ l:List Bra,l.length≤szBs l
 | []=>Nat.zero_le _
 | b :: l=>by have:=szBs_len l;simp only[szBs,szB,List.length_cons];omega
theorem szBs_mem {b:Bra}:∀ {l:List Bra},b∈l→szB b≤szBs l
 | a :: l, h => by
  simp only[szBs]
  rcases List.mem_cons.1 h with rfl | h
  · omega
  · have:=szBs_mem h;omega
theorem RetC.later {H0 H K K':Heap}{rtid cid:Nat}{c:At}{v:Value}{f:Option Flt}(r:RetC H0 H rtid cid c v f K)(k:Same (fun _=>False) K K'):RetC H0 H rtid cid c v f K':=⟨r.1.then0 k,r.2.keep k⟩
def LS (H:Heap)(v:Value)(l:List Stm):Prop:=(v = .slice none 0 0∧l=[])∨∃ (S:Nat→Prop) (id tl:Nat) (cs:List Value),v = .slice (some ⟨id,0,none⟩) l.length l.length∧H.get id = .row true tl 8 cs∧RSs H S l cs
theorem LS.slice {H:Heap}{v:Value}{l:List Stm}(h:LS H v l):∃ b,v = .slice b l.length l.length:=by
 rcases h with⟨rfl,rfl⟩ | ⟨S,id,tl,cs,rfl,_⟩
 · exact⟨_,rfl⟩
 · exact⟨_,rfl⟩
theorem LS.at {H:Heap}{v:Value}{l:List Stm}(h:LS H v l){k:Nat}(hk:k<l.length):∃ (S:Nat→Prop)(id tl:Nat)(cs:List Value),v = .slice (some ⟨id,0,none⟩) l.length l.length∧id<H.n∧H.get id = .row true tl 8 cs∧RS H S l[k] ((cs.drop (k * 8)).take 8)∧cs.length=l.length * 8∧k * 8+8≤l.length * 8:=by
 rcases h with⟨rfl,rfl⟩ | ⟨S,id,tl,cs,rfl,hg,hs⟩
 · cases hk
 · have hs':=repStm_L.2 hs
   have:=repStm.L_get k hk hs'
   have hl:=repStm.L_len hs'
   simp only[repStm]at this hl
   exact⟨S,id,tl,cs,rfl,Heap.lt_of_get hg (by simp),hg,this,hl,by omega⟩
theorem LS.of {H:Heap}{S:Nat→Prop}{v:Value}{l:List Stm}(h:repStm.G H S v l):LS H v l:=by
 rcases h with h | ⟨id,tl,cs,h1,_,_,h4,h5⟩
 · exact .inl h
 · exact .inr ⟨_,id,tl,cs,h1,h4,repStm_L.1 h5⟩
def KSt (E:Hooks)(H0:Heap)(rtid cid:Nat)(R:RT)(x:Stm):Prop:=∀ {H:Heap} {c:At} {v:Value} {f:Option Flt} {cs:List Value} {S:Nat→Prop},c.cond=ByteArray.empty→c.ins.length+szS x≤100000→CR H0 H rtid cid c v f→RS H0 S x cs →
 ∃ H',(run Tryz.prog E).call 56 [.pointer (some ⟨cid,0,none⟩),.agg ⟨cs⟩] H=some (.val (.tuple #[]),H')∧RetC H0 H rtid cid c v (f.or (stB R c.p c.ins x)) H'
def SsI (H0 H:Heap)(rtid cid:Nat)(R:RT)(c:At)(v:Value)(r:Option Flt)(l:List Stm)(m:Nat)(t:List Value)(K:Heap):Prop :=
 ∃ (k:Nat) (g:Option Flt),k≤l.length∧m=l.length - k∧rd t 4 = .int .i64 k∧RetC H0 H rtid cid c v g K∧g.or (stsB R c.p c.ins (l.drop k))=r
section
variable {E:Hooks} (hE:Plain E)
include hE
theorem c_kstmts (args:List Value)(H:Heap):(run Tryz.prog E).call 23 args H=callB Tryz.prog E Tryz.f23 args H:=call_B Tryz.func23 rfl (by decide +kernel) (hE.no _ rfl rfl) args H
theorem c_kstmt (args:List Value)(H:Heap):(run Tryz.prog E).call 56 args H=callB Tryz.prog E Tryz.f56 args H:=call_B Tryz.func56 rfl (by decide +kernel) (hE.no _ rfl rfl) args H
theorem c_kregion (args:List Value)(H:Heap):(run Tryz.prog E).call 83 args H=callB Tryz.prog E Tryz.f83 args H:=call_B Tryz.func83 rfl (by decide +kernel) (hE.no _ rfl rfl) args H
variable {H0:Heap} {rtid cid:Nat} {R:RT}
theorem kstmts_of {H:Heap}{c:At}{v:Value}{f:Option Flt}(hc:c.cond=ByteArray.empty)(h:CR H0 H rtid cid c v f){w:Value}{l:List Stm}(gl:LS H0 w l)(hil:c.ins.length+szSs l≤100000)(hm:∀ x∈l,KSt E H0 rtid cid R x) :
  ∃ H',(run Tryz.prog E).call 23 [.pointer (some ⟨cid,0,none⟩),w] H=some (.val (.tuple #[]),H')∧RetC H0 H rtid cid c v (f.or (stsB R c.p c.ins l)) H':=by
 suffices key:Gives ((run Tryz.prog E).call 23 [.pointer (some ⟨cid,0,none⟩),w] H) fun o H'=>o = .val (.tuple #[])∧RetC H0 H rtid cid c v (f.or (stsB R c.p c.ins l)) H' by
  obtain⟨o,H',e,rfl,k⟩:=key
  exact⟨H',e,k⟩
 have hl:=szSs_len l
 obtain⟨b,rfl⟩:=gl.slice
 rw[c_kstmts hE,callB,bodyOf]
 simp[Tryz.f23]
 refine loop_wp (SsI H0 H rtid cid R c v (f.or (stsB R c.p c.ins l)) l) l.length ?_ ?_
 · exact⟨0,f,Nat.zero_le _,by simp,by simp,⟨Same.refl _ _,h⟩,by simp⟩
 · rintro m t K hkk ⟨k,g,hkl,rfl,g4,rK,hg⟩
   have ht:t.length=22:=hkk.1.trans (by simp[len_Bs])
   have hh:=hkk.all [0,1] (by decide +kernel)
   simp at hh
   obtain⟨u0,u1⟩:=hh
   have e0:=kbad_run hE rK.2
   have w1:IntKind.i64.wrap ((k:Int)+1)=(k:Int)+1:=wrap64 _ (by omega) (by omega)
   rcases Nat.lt_or_ge k l.length with hlt | hge
   · cases g with
     | some q =>
      simp[ht,u0,u1,g4,hlt,e0]
      rw[← hg]
      simpa using rK
     | none =>
      obtain⟨S,id,tl,cs,e1,hid,hrow,hget,hcl,hle⟩:=gl.at hlt
      cases e1
      rw[List.drop_eq_getElem_cons hlt,stsB]at hg
      obtain⟨K2,e2,r2⟩:=hm _ (List.getElem_mem hlt) hc (by have:=szSs_mem (List.getElem_mem hlt);omega) rK.2 hget
      generalize l[k]=x at *
      have hrK:=rK.2.kp.at hrow (by simp) (by omega)
      simp[ht,u0,u1,g4,hlt,e0,hrK,hcl,hle,e2,w1]
      exact⟨l.length - (k+1),by omega,k+1,_,by omega,rfl,by simp[ht],rK.then r2,by rw[← hg,Option.or_assoc]⟩
   · have:k=l.length:=by omega
     subst this
     simp[stsB]at hg
     simp[ht,u0,u1,g4]
     rw[← hg];exact rK
def KRg (E:Hooks)(H0:Heap)(rtid cid:Nat)(R:RT)(x:Stm):Prop:=∀ {H:Heap} {c:At} {v:Value} {f:Option Flt} {cs:List Value} {S:Nat→Prop},c.cond=ByteArray.empty→c.ins.length+szS x≤100000→CR H0 H rtid cid c v f→RS H0 S x cs →
 ∃ H',(run Tryz.prog E).call 83 [.pointer (some ⟨cid,0,none⟩),.agg ⟨cs⟩] H=some (.val (.tuple #[]),H')∧RetC H0 H rtid cid c v (f.or (stB R c.p c.ins x)) H'
def BrI (H0 H:Heap)(rtid cid:Nat)(R:RT)(c:At)(v:Value)(r:Option Flt)(l:List Bra)(m:Nat)(t:List Value)(K:Heap):Prop :=
 ∃ (k:Nat) (g:Option Flt),k≤l.length∧m=l.length - k∧rd t 4 = .int .i64 k∧RetC H0 H rtid cid c v g K∧g.or (brasB R c k (l.drop k))=r
variable {col:Nat→Nat} {v1 v2 v3 v4 v5 v6:Value} (hR:RRef H0 col rtid v1 v2 v3 v4 v5 v6 R) (hok:ROK R) (hgd:RGood R)
include hR hok hgd
theorem kstmt_of {kind at_:Int}{x:ByteArray}{e:List Ex}{body els:List Stm}{br:List Bra}{items:List Itm}(hwf:WFs (.mk kind at_ x e body els br items))
  (hb:∀ y∈body,KSt E H0 rtid cid R y) (he:∀ y∈els,KSt E H0 rtid cid R y) (hrg:kind=10→KRg E H0 rtid cid R (.mk kind at_ x e body els br items)):KSt E H0 rtid cid R (.mk kind at_ x e body els br items):=by
 intro H c v f cs S hc0 hil h hc
 have hsz:szS (.mk kind at_ x e body els br items)≤100000:=by omega
 suffices key:Gives ((run Tryz.prog E).call 56 [.pointer (some ⟨cid,0,none⟩),.agg ⟨cs⟩] H) fun o H'=>o = .val (.tuple #[])∧RetC H0 H rtid cid c v (f.or (stB R c.p c.ins (.mk kind at_ x e body els br items))) H' by
  obtain⟨o,H',e,rfl,k⟩:=key
  exact⟨H',e,k⟩
 have hcs:=hc
 simp only[RS]at hc
 obtain⟨w1,w2,w3,w4,w5,rfl,gE,gB,gI,gb,ge⟩:=hc
 have lb:LS H0 w2 body:=by
  rcases gb with h | ⟨id,tl,cs',h1,_,_,h4,h5⟩
  · exact .inl h
  · exact .inr ⟨_,id,tl,cs',h1,h4,h5⟩
 have le:LS H0 w3 els:=by
  rcases ge with h | ⟨id,tl,cs',h1,_,_,h4,h5⟩
  · exact .inl h
  · exact .inr ⟨_,id,tl,cs',h1,h4,h5⟩
 clear gb ge
 obtain⟨b1,rfl⟩:=repEx.G_slice gE
 obtain⟨b2,rfl⟩:=lb.slice
 obtain⟨b3,rfl⟩:=le.slice
 obtain⟨b4,rfl⟩:=repBra.G_slice gB
 obtain⟨b5,rfl⟩:=repItm.G_slice gI
 simp only[WFs]at hwf
 obtain⟨hst,wfe,wfb,wfl,wfr,wfi⟩:=hwf
 have hC:({ p:=c.p,ins:=c.ins,cond:=ByteArray.empty }:At)=c:=by rw[← hc0]
 have kp:Same (fun _=>False) H (H.push (.row true 0 1 [.int .i64 kind,.int .i64 at_,.string x,.slice b1 e.length e.length,.slice b2 body.length body.length,.slice b3 els.length els.length,.slice b4 br.length br.length,.slice b5 items.length items.length])):=Same.push _ _ _
 have h1:=h.keep kp
 have hlt:=h.lt
 have hne:H.n≠cid:=by omega
 have g3:(H.push (.row true 0 1 [.int .i64 kind,.int .i64 at_,.string x,.slice b1 e.length e.length,.slice b2 body.length body.length,.slice b3 els.length els.length,.slice b4 br.length br.length,.slice b5 items.length items.length])).get H.n = .row true 0 1 [.int .i64 kind,.int .i64 at_,.string x,.slice b1 e.length e.length,.slice b2 body.length body.length,.slice b3 els.length els.length,.slice b4 br.length br.length,.slice b5 items.length items.length]:=Heap.get_push_self _ _
 have st:=h.stay kp
 generalize hH1:H.push (.row true 0 1 [.int .i64 kind,.int .i64 at_,.string x,.slice b1 e.length e.length,.slice b2 body.length body.length,.slice b3 els.length els.length,.slice b4 br.length br.length,.slice b5 items.length items.length])=H1 at *
 have wantI:∀ {K:Heap} {g:Option Flt} (k:Int) (i:Nat) (hi:i<e.length),RetC H0 H1 rtid cid c v g K→∃ id tl cs' K',b1=some ⟨id,0,none⟩∧K.get id = .row true tl 6 cs'∧i * 6+6≤cs'.length ∧
   (run Tryz.prog E).call 81 [.pointer (some ⟨cid,0,none⟩),.agg ⟨List.take 6 (List.drop (i * 6) cs')⟩,.int .i64 k] K=some (.val (.tuple #[]),K')∧RetC H0 H1 rtid cid c v (g.or ((exB R c (e[i]'hi)).or (typB k (e[i]'hi)))) K':=by
  intro K g k i hi rK
  obtain⟨id,tl,cs',e1',_,hid,hrow,hcl,hget,hle⟩:=repEx.G_at gE hi
  cases e1'
  simp only[repEx]at hget hcl hrow hle
  obtain⟨K',e2,r2⟩:=kwant_all hE hR hok (wfe.mem _ (List.getElem_mem hi)) k rK.2 hget
  exact⟨id,tl,cs',K',rfl,rK.2.kp.at hrow (by simp) (by omega),by omega,e2,rK.then r2⟩
 have one:∀ k:Int,(h:e.length=1)→wantB R c k e=(exB R c (e[0]'(by omega))).or (typB k (e[0]'(by omega))):=by
  intro k h
  obtain⟨y,rfl⟩:=List.length_eq_one_iff.1 h
  simp[wantB]
 have nbody:c.ins.length+szSs body≤100000:=by simp only[szS]at hil;omega
 have nels:c.ins.length+szSs els≤100000:=by simp only[szS]at hil;omega
 have ne:e.length≤100000:=by have:=szXs_len e;simp only[szS]at hsz;omega
 have ni:items.length≤100000:=by simp only[szS]at hsz;omega
 rw[c_kstmt hE,callB,bodyOf]
 simp only[stB,hC]
 have hlo:=hst.lo
 have hhi:=hst.hi
 obtain⟨he0,he1,he2,he10⟩:=hst.e
 rcases (show kind=1∨kind=2∨kind=3∨kind=4∨kind=5∨kind=6∨kind=7∨kind=8∨kind=9∨kind=10∨kind=11∨kind=12∨kind=13∨kind=14∨kind=15 by omega)with rfl | rfl | rfl | rfl | rfl | rfl | rfl | rfl | rfl | rfl | rfl | rfl | rfl | rfl | rfl
 · simp[Tryz.f56,hH1,g3]
   exact st
 · obtain⟨K1,e1,r1⟩:=kvar_run hE hR hok h1 x at_ false
   have r1':RetC H0 H1 rtid cid c v (f.or (varB R c x at_ false)) K1:=r1
   have g3':=r1.at g3 (by simp) hne
   have hl:=he1 (by omega)
   have hp:0<e.length:=by omega
   obtain⟨id,tl,cs',K2,rfl,hg2,hl2,e2,r2⟩:=wantI 1 0 hp r1'
   simp at e2 hl2
   simp[Tryz.f56,hH1,g3,e1,g3',hp,hg2,hl2,e2]
   rw[one 1 hl,← Option.or_assoc]
   exact r2.before kp
 · -- 3
   obtain⟨K1,e1,r1⟩:=kvar_run hE hR hok h1 x at_ true
   have r1':RetC H0 H1 rtid cid c v (f.or (varB R c x at_ true)) K1:=r1
   have g3':=r1.at g3 (by simp) hne
   have hl:=he2 rfl
   have hp:0<e.length:=by omega
   have hp1:1<e.length:=by omega
   have hp1':(1:Int)<(e.length:Int):=by omega
   obtain⟨id,tl,cs',K2,rfl,hg2,hl2,e2,r2⟩:=wantI 1 0 hp r1'
   have g3'':=r2.at g3 (by simp) hne
   obtain⟨id',tl',cs'',K3,eid,hg3,hl3,e3,r3⟩:=wantI 1 1 hp1 r2
   cases eid
   simp at e2 hl2 e3 hl3
   simp[Tryz.f56,hH1,g3,e1,g3',hp,hg2,hl2,e2,g3'',hp1,hp1',hg3,hl3,e3]
   have two:wantB R c 1 e=((exB R c (e[0]'hp)).or (typB 1 (e[0]'hp))).or ((exB R c (e[1]'hp1)).or (typB 1 (e[1]'hp1))):=by
    have two':∀ (l:List Ex) (h:l.length=2),wantB R c 1 l=((exB R c (l[0]'(by omega))).or (typB 1 (l[0]'(by omega)))).or ((exB R c (l[1]'(by omega))).or (typB 1 (l[1]'(by omega)))):=fun l h=>match l,h with
     | [y,z],_=>by simp[wantB]
    exact two' e hl
   rw[two]
   simp only[← Option.or_assoc]at r3 ⊢
   exact r3.before kp
 · -- 4
   have hl:=he1 (by omega)
   have hp:0<e.length:=by omega
   obtain⟨id,tl,cs',K2,rfl,hg2,hl2,e2,r2⟩:=wantI 2 0 hp ⟨Same.refl _ _,h1⟩
   have g3':=r2.at g3 (by simp) hne
   obtain⟨K3,e3,r3⟩:=kstmts_of hE hc0 r2.2 lb nbody hb
   have r3:=r2.then r3
   have g3'':=r3.at g3 (by simp) hne
   obtain⟨K4,e4,r4⟩:=kstmts_of hE hc0 r3.2 le nels he
   have r4:=r3.then r4
   simp at e2 hl2
   simp[Tryz.f56,hH1,g3,g3',hp,hg2,hl2,e2,g3'',e3,e4]
   rw[one 2 hl,← Option.or_assoc,← Option.or_assoc]
   exact r4.before kp
 · -- 5
   have hl:=he1 (by omega)
   have hp:0<e.length:=by omega
   obtain⟨id,tl,cs',K2,rfl,hg2,hl2,e2,r2⟩:=wantI 2 0 hp ⟨Same.refl _ _,h1⟩
   have g3':=r2.at g3 (by simp) hne
   obtain⟨K3,e3,r3⟩:=kstmts_of hE hc0 r2.2 lb nbody hb
   have r3:=r2.then r3
   have g3'':=r3.at g3 (by simp) hne
   obtain⟨K4,e4,r4⟩:=kstmts_of hE hc0 r3.2 le nels he
   have r4:=r3.then r4
   simp at e2 hl2
   simp[Tryz.f56,hH1,g3,g3',hp,hg2,hl2,e2,g3'',e3,e4]
   rw[one 2 hl,← Option.or_assoc,← Option.or_assoc]
   exact r4.before kp
 · -- 6
   obtain⟨K1,e1,r1⟩:=kcall_run hE hR hok hgd h1 x at_ gE wfe ne
   simp[Tryz.f56,hH1,g3,e1]
   exact r1.before kp
 · -- 7
   simp[Tryz.f56,hH1,g3]
   have nbr:br.length≤100000:=by have:=szBs_len br;simp only[szS]at hsz;omega
   refine loop_wp (BrI H0 H1 rtid cid R c v (f.or (brasB R c 0 br)) br) br.length ?_ ?_
   · exact⟨0,f,Nat.zero_le _,by simp,by simp,⟨Same.refl _ _,h1⟩,by simp⟩
   · rintro m t K hkk ⟨k,g,hkl,rfl,g4,rK,hg⟩
     have ht:t.length=152:=hkk.1.trans (by simp[len_Bs])
     have hh:=hkk.all [0,3] (by decide +kernel)
     simp at hh
     obtain⟨u0,u3⟩:=hh
     have g3K:=rK.at g3 (by simp) hne
     have w1:IntKind.i64.wrap ((k:Int)+1)=(k:Int)+1:=wrap64 _ (by omega) (by omega)
     rcases Nat.lt_or_ge k br.length with hlt | hge
     · obtain⟨id,tl,cs',e1',_,hid,hrow,hcl,hget,hle⟩:=repBra.G_at gB hlt
       cases e1'
       rw[List.drop_eq_getElem_cons hlt,brasB]at hg
       have wfb:=wfr _ (List.getElem_mem hlt)
       have szb:=szBs_mem (List.getElem_mem hlt)
       generalize br[k]=q at *
       obtain⟨z1,z2,hq,ga,gc⟩:=hget
       have hcl':cs'.length=br.length * 4:=hcl
       have hle':k * 4+4≤br.length * 4:=hle
       have hrow':H0.get id = .row true tl 4 cs':=hrow
       have hq':List.take 4 (List.drop (k * 4) cs')=[.int .i64 q.at_,.string q.name,z1,z2]:=hq
       obtain⟨bz1,rfl⟩:=repEx.G_slice ga
       obtain⟨bz2,rfl⟩:=repItm.G_slice gc
       have hrK:=rK.2.kp.at hrow' (by simp) (by omega)
       have szq:q.args.length≤100000∧q.claims.length≤100000:=by
        have:=szXs_len q.args
        simp only[szS]at hsz
        simp only[szB]at szb
        omega
       have kq:Same (fun _=>False) K (K.push (.row true 0 1 [.int .i64 q.at_,.string q.name,.slice bz1 q.args.length q.args.length,.slice bz2 q.claims.length q.claims.length])):=Same.push _ _ _
       have rP:=rK.later kq
       have nq:K.n≠cid:=by have:=rK.2.lt;omega
       have g5:(K.push (.row true 0 1 [.int .i64 q.at_,.string q.name,.slice bz1 q.args.length q.args.length,.slice bz2 q.claims.length q.claims.length])).get K.n = .row true 0 1 [.int .i64 q.at_,.string q.name,.slice bz1 q.args.length q.args.length,.slice bz2 q.claims.length q.claims.length]:=Heap.get_push_self _ _
       simp[ht,u0,u3,g4,g3K,hlt,hrK,hcl',hle',hq']
       generalize K.push (.row true 0 1 [.int .i64 q.at_,.string q.name,.slice bz1 q.args.length q.args.length,.slice bz2 q.claims.length q.claims.length])=Kp at *
       have rest:∀ {g1:Option Flt} {K2:Heap},RetC H0 H1 rtid cid c v g1 K2→∃ K3 K4,(run Tryz.prog E).call 82 [.pointer (some ⟨cid,0,none⟩),.string q.name,.int .i64 q.at_,.slice bz1 q.args.length q.args.length] K2=some (.val (.tuple #[]),K3)∧RetC H0 K2 rtid cid c v (g1.or (callT R c q.name q.at_ q.args)) K3 ∧
         (run Tryz.prog E).call 24 [.pointer (some ⟨cid,0,none⟩),.slice bz2 q.claims.length q.claims.length] K3=some (.val (.tuple #[]),K4)∧RetC H0 H1 rtid cid c v ((g1.or (callT R c q.name q.at_ q.args)).or (itemsB R c.p [] q.claims)) K4:=by
        intro g1 K2 r2
        obtain⟨K3,e3,r3⟩:=kcall_run hE hR hok hgd r2.2 q.name q.at_ ga wfb.1 szq.1
        obtain⟨K4,e4,r4⟩:=kitems_run hE hR hok hgd r3.2 gc szq.2
        exact⟨K3,K4,e3,r3,e4,r2.then (r3.then r4)⟩
       by_cases c8:8≤k
       · have c8':(8:Int)≤(k:Int):=by omega
         obtain⟨K2,e2,r2⟩:=kfault_run hE rP.2 16 q.at_ (by decide)
         have ga2:=r2.at g5 (by simp) nq
         have r2:=rP.then r2
         obtain⟨K3,K4,e3,r3,e4,r4⟩:=rest r2
         have ga3:=r3.at ga2 (by simp) nq
         simp[ht,u0,u3,g4,c8',e2,e3,e4,g5,ga2,ga3,w1]
         refine⟨br.length - (k+1),by omega,k+1,_,by omega,rfl,by simp[ht],r4,?_⟩
         rw[← hg]
         simp only[braB,if_pos c8,Option.or_assoc]
       · have c8':¬(8:Int)≤(k:Int):=by omega
         obtain⟨K3,K4,e3,r3,e4,r4⟩:=rest rP
         have ga3:=r3.at g5 (by simp) nq
         simp[ht,u0,u3,g4,c8',e3,e4,g5,ga3,w1]
         refine⟨br.length - (k+1),by omega,k+1,_,by omega,rfl,by simp[ht],r4,?_⟩
         rw[← hg]
         simp only[braB,if_neg c8,Option.or_assoc,Option.none_or]
     · have:k=br.length:=by omega
       subst this
       simp[brasB]at hg
       simp[ht,u0,u3,g4,g3K]
       rw[← hg];exact rK.before kp
 · -- 8
   obtain⟨K1,e1,r1⟩:=kglobal_run hE hR hok hgd h1 x at_ 2 (by decide)
   rw[if_neg (by decide)]at r1
   simp[Tryz.f56,hH1,g3,e1]
   exact r1.before kp
 · -- 9
   obtain⟨K1,e1,r1⟩:=kglobal_run hE hR hok hgd h1 x at_ 2 (by decide)
   rw[if_neg (by decide)]at r1
   simp[Tryz.f56,hH1,g3,e1]
   exact r1.before kp
 · -- 10
   obtain⟨K1,e1,r1⟩:=hrg rfl hc0 hil h1 hcs
   have r1:=r1.before kp
   simp only[stB,hC]at r1
   simp[Tryz.f56,hH1,g3,e1]
   simpa using r1
 · -- 11
   obtain⟨K1,e1,r1⟩:=kitems_run hE hR hok hgd h1 gI ni
   simp[Tryz.f56,hH1,g3,e1]
   exact r1.before kp
 · -- 12
   obtain⟨K1,e1,r1⟩:=kitems_run hE hR hok hgd h1 gI ni
   simp[Tryz.f56,hH1,g3,e1]
   exact r1.before kp
 · -- 13
   obtain⟨K1,e1,r1⟩:=kvar_run hE hR hok h1 x at_ false
   have hl:e=[]:=List.length_eq_zero_iff.1 (he0 (by omega))
   have hw:wantB R c 1 e=none:=by rw[hl,wantB]
   rw[hw]
   simp[Tryz.f56,hH1,g3,e1]
   exact r1.before kp
 · -- 14
   obtain⟨K1,e1,r1⟩:=kvar_run hE hR hok h1 x at_ true
   have r1':RetC H0 H1 rtid cid c v (f.or (varB R c x at_ true)) K1:=r1
   have g3':=r1.at g3 (by simp) hne
   have hl:=he1 (by omega)
   have hp:0<e.length:=by omega
   obtain⟨id,tl,cs',K2,rfl,hg2,hl2,e2,r2⟩:=wantI 1 0 hp r1'
   simp at e2 hl2
   simp[Tryz.f56,hH1,g3,e1,g3',hp,hg2,hl2,e2]
   rw[one 1 hl,← Option.or_assoc]
   exact r2.before kp
 · -- 15
   have hl:=he1 (by omega)
   have hp:0<e.length:=by omega
   obtain⟨id,tl,cs',K2,rfl,hg2,hl2,e2,r2⟩:=wantI 1 0 hp ⟨Same.refl _ _,h1⟩
   simp at e2 hl2
   simp[Tryz.f56,hH1,g3,hp,hg2,hl2,e2]
   rw[one 1 hl]
   exact r2.before kp
end
def RetT (H0 H:Heap)(tid cid:Nat)(c:At)(v:Value)(f:Option Flt)(H':Heap):Prop :=
 Same (fun i=>i=cid∨vid v i) H H'∧(f=none→∃ v',CT H0 H' tid cid c v'∧∀ i,vid v' i→vid v i∨H.n≤i)
theorem RetT.quiet {H0 H H':Heap}{tid cid:Nat}{c:At}{v:Value}{f:Option Flt}(h:CT H0 H tid cid c v)(k:Same (fun _=>False) H H'):RetT H0 H tid cid c v f H' :=
 ⟨k.none,fun _=>⟨v,h.keep k,fun _ h => .inl h⟩⟩
theorem RetT.before {H0 H A H':Heap}{tid cid:Nat}{c:At}{v:Value}{f:Option Flt}(k:Same (fun _=>False) H A)(r:RetT H0 A tid cid c v f H'):RetT H0 H tid cid c v f H' :=
 ⟨k.none.trans r.1,fun hf=>by
  obtain⟨v',h1,h2⟩:=r.2 hf
  exact⟨v',h1,fun i hi=>(h2 i hi).imp id fun h=>Nat.le_trans k.n h⟩⟩
theorem RetT.then {H0 H A H':Heap}{tid cid:Nat}{c:At}{v v':Value}{f:Option Flt}(k:Same (fun i=>i=cid∨vid v i) H A)(hv:∀ i,vid v' i→vid v i∨H.n≤i)(r:RetT H0 A tid cid c v' f H'):RetT H0 H tid cid c v f H' :=
 ⟨k.then r.1 fun i hi=>by
   rcases hi with hi | hi
   · exact .inl (.inl hi)
   · exact (hv i hi).imp .inr id,
  fun hf=>by
   obtain⟨w,h1,h2⟩:=r.2 hf
   exact⟨w,h1,fun i hi=>by
    rcases h2 i hi with h | h
    · exact hv i h
    · exact .inr (Nat.le_trans k.n h)⟩⟩
theorem CT.vid_lt {H0 H:Heap}{tid cid:Nat}{c:At}{v:Value}(h:CT H0 H tid cid c v){i:Nat}(hi:vid v i):i<H.n∧H0.n≤i∧i≠cid:=by
 rcases h.gi with⟨n,rfl,rfl,_⟩ | ⟨id,tl,cap,cs,rfl,_,hS,hg,_⟩
 · exact hi.elim
 · have:id=i:=hi
   subst this
   exact⟨Heap.lt_of_get hg (by simp),hS.1,hS.2⟩
theorem CT.lt {H0 H:Heap}{tid cid:Nat}{c:At}{v:Value}(h:CT H0 H tid cid c v):cid<H.n:=Heap.lt_of_get h.obj (by simp)
def TSt (E:Hooks)(H0:Heap)(tid cid:Nat)(R:RT)(x:Stm):Prop:=∀ {H:Heap} {c:At} {v:Value} {cs:List Value} {S:Nat→Prop},c.cond=ByteArray.empty→c.ins.length+szS x≤100000→CT H0 H tid cid c v→RS H0 S x cs →
 ∃ H',(run Tryz.prog E).call 51 [.pointer (some ⟨cid,0,none⟩),.agg ⟨cs⟩] H=some (outF (stB R c.p c.ins x),H')∧RetT H0 H tid cid c v (stB R c.p c.ins x) H'
def TsI (H0 H:Heap)(tid cid:Nat)(R:RT)(c:At)(v:Value)(l:List Stm)(m:Nat)(t:List Value)(K:Heap):Prop :=
 ∃ (k:Nat) (v':Value),k≤l.length∧m=l.length - k∧rd t 8 = .int .i64 k∧Same (fun i=>i=cid∨vid v i) H K∧CT H0 K tid cid c v'∧(∀ i,vid v' i→vid v i∨H.n≤i)∧stsB R c.p c.ins (l.drop k)=stsB R c.p c.ins l
section
variable {E:Hooks} (hE:Plain E)
include hE
theorem c_tstmts (args:List Value)(H:Heap):(run Tryz.prog E).call 20 args H=callB Tryz.prog E Tryz.f20 args H:=call_B Tryz.func20 rfl (by decide +kernel) (hE.no _ rfl rfl) args H
theorem c_tstmt (args:List Value)(H:Heap):(run Tryz.prog E).call 51 args H=callB Tryz.prog E Tryz.f51 args H:=call_B Tryz.func51 rfl (by decide +kernel) (hE.no _ rfl rfl) args H
variable {H0:Heap} {tid cid:Nat} {R:RT}
theorem tstmts_of {H:Heap}{c:At}{v:Value}(hc:c.cond=ByteArray.empty)(h:CT H0 H tid cid c v){w:Value}{l:List Stm}(gl:LS H0 w l)(hil:c.ins.length+szSs l≤100000)(hm:∀ x∈l,TSt E H0 tid cid R x) :
  ∃ H',(run Tryz.prog E).call 20 [.pointer (some ⟨cid,0,none⟩),w] H=some (outF (stsB R c.p c.ins l),H')∧RetT H0 H tid cid c v (stsB R c.p c.ins l) H':=by
 suffices key:Gives ((run Tryz.prog E).call 20 [.pointer (some ⟨cid,0,none⟩),w] H) fun o H'=>o=outF (stsB R c.p c.ins l)∧RetT H0 H tid cid c v (stsB R c.p c.ins l) H' by
  obtain⟨o,H',e,rfl,k⟩:=key
  exact⟨H',e,k⟩
 have hl:=szSs_len l
 obtain⟨b,rfl⟩:=gl.slice
 rw[c_tstmts hE,callB,bodyOf]
 simp[Tryz.f20]
 refine loop_wp (TsI H0 H tid cid R c v l) l.length ?_ ?_
 · exact⟨0,v,Nat.zero_le _,by simp,by simp,Same.refl _ _,h,fun _ h => .inl h,by simp⟩
 · rintro m t K hkk ⟨k,v',hkl,rfl,g8,kK,hK,hv,hg⟩
   have ht:t.length=16:=hkk.1.trans (by simp[len_Bs])
   have hh:=hkk.all [0,6,7] (by decide +kernel)
   simp at hh
   obtain⟨u0,u6,u7⟩:=hh
   have w1:IntKind.i64.wrap ((k:Int)+1)=(k:Int)+1:=wrap64 _ (by omega) (by omega)
   rcases Nat.lt_or_ge k l.length with hlt | hge
   · obtain⟨S,id,tl,cs,e1,hid,hrow,hget,hcl,hle⟩:=gl.at hlt
     cases e1
     rw[List.drop_eq_getElem_cons hlt,stsB]at hg
     have hx:=fun {K:Heap} (q:CT H0 K tid cid c v')=>hm _ (List.getElem_mem hlt) hc (by have:=szSs_mem (List.getElem_mem hlt);omega) q hget
     generalize l[k]=x at *
     have hrK:=hK.kp.at hrow (by simp) (by omega)
     have hlen:=hget.len
     have kq:Same (fun _=>False) K (K.push (.row true 0 1 (List.take 8 (List.drop (k * 8) cs)))):=Same.push _ _ _
     have g5:(K.push (.row true 0 1 (List.take 8 (List.drop (k * 8) cs)))).get K.n = .row true 0 1 (List.take 8 (List.drop (k * 8) cs)):=Heap.get_push_self _ _
     obtain⟨K2,e2,r2⟩:=hx (hK.keep kq)
     have r3:=RetT.then kK hv (r2.before kq)
     simp[ht,u0,u6,u7,g8,hlt,hrK,hcl,hle,hlen]
     have tt:List.take 8 (List.take 8 (List.drop (k * 8) cs))=List.take 8 (List.drop (k * 8) cs):=List.take_of_length_le (by rw[hlen];exact Nat.le_refl 8)
     rw[tt]
     generalize List.take 8 (List.drop (k * 8) cs)=ds at *
     generalize K.push (.row true 0 1 ds)=Kp at *
     cases hs:stB R c.p c.ins x with
     | some q =>
      rw[hs]at e2 hg r3
      simp only[outF]at e2
      simp[ht,u0,u6,u7,g8,e2]
      rw[← hg]
      exact⟨rfl,r3.1,fun h=>by cases h⟩
     | none =>
      rw[hs,Option.none_or]at hg
      rw[hs]at e2 r3
      simp only[outF]at e2
      obtain⟨v2,h2,hv2⟩:=r3.2 rfl
      simp[ht,u0,u6,u7,g8,e2,w1]
      exact⟨l.length - (k+1),by omega,k+1,v2,by omega,rfl,by simp[ht],r3.1,h2,hv2,hg⟩
   · have:k=l.length:=by omega
     subst this
     simp[stsB]at hg
     simp[ht,u0,u6,u7,g8]
     rw[← hg];exact⟨rfl,kK,fun _=>⟨v',hK,hv⟩⟩
end
def TRg (E:Hooks)(H0:Heap)(tid cid:Nat)(R:RT)(x:Stm):Prop:=∀ {H:Heap} {c:At} {v:Value} {cs:List Value} {S:Nat→Prop},c.cond=ByteArray.empty→c.ins.length+szS x≤100000→CT H0 H tid cid c v→RS H0 S x cs →
 ∃ H',(run Tryz.prog E).call 77 [.pointer (some ⟨cid,0,none⟩),.agg ⟨cs⟩] H=some (outF (stB R c.p c.ins x),H')∧RetT H0 H tid cid c v (stB R c.p c.ins x) H'
section
variable {E:Hooks} (hE:Plain E)
include hE
variable {H0:Heap} {tid cid:Nat} {R:RT} {col:Nat→Nat} {nid pid rid:Nat} {v1 v2 v3 v4 v5:Value} {T:Tab} (hT:RTab H0 col tid nid pid rid v1 v2 v3 v4 v5 T) (ha:Scope.Agree T R) (hok:TOK T) (hgd:RGood R)
include hT ha hok hgd
theorem tstmt_of {kind at_:Int}{x:ByteArray}{e:List Ex}{body els:List Stm}{br:List Bra}{items:List Itm}(hwf:WFs (.mk kind at_ x e body els br items))
  (hb:∀ y∈body,TSt E H0 tid cid R y) (he:∀ y∈els,TSt E H0 tid cid R y) (hrg:kind=10→TRg E H0 tid cid R (.mk kind at_ x e body els br items)):TSt E H0 tid cid R (.mk kind at_ x e body els br items):=by
 intro H c v cs S hc0 hil h hc
 have hsz:szS (.mk kind at_ x e body els br items)≤100000:=by omega
 suffices key:Gives ((run Tryz.prog E).call 51 [.pointer (some ⟨cid,0,none⟩),.agg ⟨cs⟩] H) fun o H'=>o=outF (stB R c.p c.ins (.mk kind at_ x e body els br items))∧RetT H0 H tid cid c v (stB R c.p c.ins (.mk kind at_ x e body els br items)) H' by
  obtain⟨o,H',e,rfl,k⟩:=key
  exact⟨H',e,k⟩
 have hcs:=hc
 simp only[RS]at hc
 obtain⟨w1,w2,w3,w4,w5,rfl,gE,gB,gI,gb,ge⟩:=hc
 have lb:LS H0 w2 body:=by
  rcases gb with h | ⟨id,tl,cs',h1,_,_,h4,h5⟩
  · exact .inl h
  · exact .inr ⟨_,id,tl,cs',h1,h4,h5⟩
 have le:LS H0 w3 els:=by
  rcases ge with h | ⟨id,tl,cs',h1,_,_,h4,h5⟩
  · exact .inl h
  · exact .inr ⟨_,id,tl,cs',h1,h4,h5⟩
 clear gb ge
 obtain⟨b1,rfl⟩:=repEx.G_slice gE
 obtain⟨b2,rfl⟩:=lb.slice
 obtain⟨b3,rfl⟩:=le.slice
 obtain⟨b4,rfl⟩:=repBra.G_slice gB
 obtain⟨b5,rfl⟩:=repItm.G_slice gI
 simp only[WFs]at hwf
 obtain⟨hst,wfe,wfb,wfl,wfr,wfi⟩:=hwf
 have hC:({ p:=c.p,ins:=c.ins,cond:=ByteArray.empty }:At)=c:=by rw[← hc0]
 have kp:Same (fun _=>False) H (H.push (.row true 0 1 [.int .i64 kind,.int .i64 at_,.string x,.slice b1 e.length e.length,.slice b2 body.length body.length,.slice b3 els.length els.length,.slice b4 br.length br.length,.slice b5 items.length items.length])):=Same.push _ _ _
 have h1:=h.keep kp
 have hlt:=h.lt
 have hne:H.n≠cid:=by omega
 have g3:(H.push (.row true 0 1 [.int .i64 kind,.int .i64 at_,.string x,.slice b1 e.length e.length,.slice b2 body.length body.length,.slice b3 els.length els.length,.slice b4 br.length br.length,.slice b5 items.length items.length])).get H.n = .row true 0 1 [.int .i64 kind,.int .i64 at_,.string x,.slice b1 e.length e.length,.slice b2 body.length body.length,.slice b3 els.length els.length,.slice b4 br.length br.length,.slice b5 items.length items.length]:=Heap.get_push_self _ _
 have st:∀ {f:Option Flt} {K:Heap},Same (fun _=>False) (H.push (.row true 0 1 [.int .i64 kind,.int .i64 at_,.string x,.slice b1 e.length e.length,.slice b2 body.length body.length,.slice b3 els.length els.length,.slice b4 br.length br.length,.slice b5 items.length items.length])) K→RetT H0 H tid cid c v f K:=fun k=>RetT.quiet h (kp.trans k)
 generalize hH1:H.push (.row true 0 1 [.int .i64 kind,.int .i64 at_,.string x,.slice b1 e.length e.length,.slice b2 body.length body.length,.slice b3 els.length els.length,.slice b4 br.length br.length,.slice b5 items.length items.length])=H1 at *
 have nbody:c.ins.length+szSs body≤100000:=by simp only[szS]at hil;omega
 have nels:c.ins.length+szSs els≤100000:=by simp only[szS]at hil;omega
 have ne:e.length≤100000:=by have:=szXs_len e;simp only[szS]at hsz;omega
 have ni:items.length≤100000:=by simp only[szS]at hsz;omega
 rw[c_tstmt hE,callB,bodyOf]
 simp only[stB,hC]
 have hlo:=hst.lo
 have hhi:=hst.hi
 have nbq:∀ q∈br,q.args.length≤100000∧q.claims.length≤100000:=fun q hq=>by
  have h1:=szBs_mem hq
  have h2:=szXs_len q.args
  simp only[szS]at hsz
  simp only[szB]at h1
  omega
 have nbr:br.length≤100000:=by have:=szBs_len br;simp only[szS]at hsz;omega
 rcases (show kind=1∨kind=2∨kind=3∨kind=4∨kind=5∨kind=6∨kind=7∨kind=8∨kind=9∨kind=10∨kind=11∨kind=12∨kind=13∨kind=14∨kind=15 by omega)with rfl | rfl | rfl | rfl | rfl | rfl | rfl | rfl | rfl | rfl | rfl | rfl | rfl | rfl | rfl
 · simp[Tryz.f51,hH1,g3,outF]
   exact st (Same.refl _ _)
 · obtain⟨K1,e1,k1⟩:=tvar_run hE hT ha hok hgd h1 x at_ false
   obtain⟨K2,e2,k2⟩:=twant_run hE hT ha hok hgd (h1.keep k1) 1 (LX.of gE) ne wfe
   have g31:=k1.at g3 (by simp) (fun h=>h)
   cases hv:varB R c x at_ false with
   | some q =>
    rw[hv]at e1
    simp only[outF]at e1
    simp[Tryz.f51,hH1,g3,e1,outF,hv]
    exact st k1
   | none =>
    rw[hv]at e1
    simp only[outF]at e1
    cases hw:wantB R c 1 e with
    | none =>
     rw[hw]at e2
     simp only[outF]at e2
     simp[Tryz.f51,hH1,g3,e1,g31,e2,outF,hv,hw]
     exact st (k1.trans k2)
    | some q =>
     rw[hw]at e2
     simp only[outF]at e2
     simp[Tryz.f51,hH1,g3,e1,g31,e2,outF,hv,hw]
     exact st (k1.trans k2)
 · obtain⟨K1,e1,k1⟩:=tvar_run hE hT ha hok hgd h1 x at_ true
   obtain⟨K2,e2,k2⟩:=twant_run hE hT ha hok hgd (h1.keep k1) 1 (LX.of gE) ne wfe
   have g31:=k1.at g3 (by simp) (fun h=>h)
   cases hv:varB R c x at_ true with
   | some q =>
    rw[hv]at e1
    simp only[outF]at e1
    simp[Tryz.f51,hH1,g3,e1,outF,hv]
    exact st k1
   | none =>
    rw[hv]at e1
    simp only[outF]at e1
    cases hw:wantB R c 1 e with
    | none =>
     rw[hw]at e2
     simp only[outF]at e2
     simp[Tryz.f51,hH1,g3,e1,g31,e2,outF,hv,hw]
     exact st (k1.trans k2)
    | some q =>
     rw[hw]at e2
     simp only[outF]at e2
     simp[Tryz.f51,hH1,g3,e1,g31,e2,outF,hv,hw]
     exact st (k1.trans k2)
 · obtain⟨K1,e1,k1⟩:=twant_run hE hT ha hok hgd h1 2 (LX.of gE) ne wfe
   have g31:=k1.at g3 (by simp) (fun h=>h)
   have c1:=h1.keep k1
   cases hw:wantB R c 2 e with
   | some q =>
    rw[hw]at e1
    simp only[outF]at e1
    simp[Tryz.f51,hH1,g3,e1,outF,hw]
    exact st k1
   | none =>
    rw[hw]at e1
    simp only[outF]at e1
    obtain⟨K2,e2,r2⟩:=tstmts_of hE hc0 c1 lb nbody hb
    have g32:=r2.1.at g31 (by simp) (fun z=>z.elim hne (fun hv=>by have:=(h.vid_lt hv).1;omega))
    have r2':=r2.before (kp.trans k1)
    cases hs:stsB R c.p c.ins body with
    | some q =>
     rw[hs]at e2 r2'
     simp only[outF]at e2
     simp[Tryz.f51,hH1,g3,e1,g31,e2,outF,hw,hs]
     exact⟨r2'.1,fun h=>by cases h⟩
    | none =>
     rw[hs]at e2 r2'
     simp only[outF]at e2
     obtain⟨v2,c2,hv2⟩:=r2'.2 rfl
     obtain⟨K3,e3,r3⟩:=tstmts_of hE hc0 c2 le nels he
     have r3':=RetT.then r2'.1 hv2 r3
     cases hs2:stsB R c.p c.ins els with
     | some q =>
      rw[hs2]at e3 r3'
      simp only[outF]at e3
      simp[Tryz.f51,hH1,g3,e1,g31,e2,g32,e3,outF,hw,hs,hs2]
      exact r3'
     | none =>
      rw[hs2]at e3 r3'
      simp only[outF]at e3
      simp[Tryz.f51,hH1,g3,e1,g31,e2,g32,e3,outF,hw,hs,hs2]
      exact r3'
 · obtain⟨K1,e1,k1⟩:=twant_run hE hT ha hok hgd h1 2 (LX.of gE) ne wfe
   have g31:=k1.at g3 (by simp) (fun h=>h)
   have c1:=h1.keep k1
   cases hw:wantB R c 2 e with
   | some q =>
    rw[hw]at e1
    simp only[outF]at e1
    simp[Tryz.f51,hH1,g3,e1,outF,hw]
    exact st k1
   | none =>
    rw[hw]at e1
    simp only[outF]at e1
    obtain⟨K2,e2,r2⟩:=tstmts_of hE hc0 c1 lb nbody hb
    have g32:=r2.1.at g31 (by simp) (fun z=>z.elim hne (fun hv=>by have:=(h.vid_lt hv).1;omega))
    have r2':=r2.before (kp.trans k1)
    cases hs:stsB R c.p c.ins body with
    | some q =>
     rw[hs]at e2 r2'
     simp only[outF]at e2
     simp[Tryz.f51,hH1,g3,e1,g31,e2,outF,hw,hs]
     exact⟨r2'.1,fun h=>by cases h⟩
    | none =>
     rw[hs]at e2 r2'
     simp only[outF]at e2
     obtain⟨v2,c2,hv2⟩:=r2'.2 rfl
     obtain⟨K3,e3,r3⟩:=tstmts_of hE hc0 c2 le nels he
     have r3':=RetT.then r2'.1 hv2 r3
     cases hs2:stsB R c.p c.ins els with
     | some q =>
      rw[hs2]at e3 r3'
      simp only[outF]at e3
      simp[Tryz.f51,hH1,g3,e1,g31,e2,g32,e3,outF,hw,hs,hs2]
      exact r3'
     | none =>
      rw[hs2]at e3 r3'
      simp only[outF]at e3
      simp[Tryz.f51,hH1,g3,e1,g31,e2,g32,e3,outF,hw,hs,hs2]
      exact r3'
 · -- 6
   obtain⟨K1,e1,k1⟩:=tcall_run hE hT ha hok hgd h1 x at_ (LX.of gE) ne wfe
   cases hv:callT R c x at_ e with
   | none =>
    rw[hv]at e1
    simp only[outF]at e1
    simp[Tryz.f51,hH1,g3,e1,outF,hv]
    exact st k1
   | some q =>
    rw[hv]at e1
    simp only[outF]at e1
    simp[Tryz.f51,hH1,g3,e1,outF,hv]
    exact st k1
 · -- 7
   obtain⟨K1,e1,k1⟩:=tbras_run hE hT ha hok hgd h1 gB nbr nbq wfr
   cases hv:brasB R c 0 br with
   | none =>
    rw[hv]at e1
    simp only[outF]at e1
    simp[Tryz.f51,hH1,g3,e1,outF,hv]
    exact st k1
   | some q =>
    rw[hv]at e1
    simp only[outF]at e1
    simp[Tryz.f51,hH1,g3,e1,outF,hv]
    exact st k1
 · -- 8
   obtain⟨o1,K1,e1,k1,ho1⟩:=tmust_run hE hT ha hok hgd h1 x at_ 2 (.inr (by decide))
   subst ho1
   cases hv:mustB R c.p x at_ 2 with
   | none =>
    rw[hv]at e1
    simp[Tryz.f51,hH1,g3,e1,outF,hv]
    exact st k1
   | some q =>
    rw[hv]at e1
    simp[Tryz.f51,hH1,g3,e1,outF,hv]
    exact st k1
 · -- 9
   obtain⟨o1,K1,e1,k1,ho1⟩:=tmust_run hE hT ha hok hgd h1 x at_ 2 (.inr (by decide))
   subst ho1
   cases hv:mustB R c.p x at_ 2 with
   | none =>
    rw[hv]at e1
    simp[Tryz.f51,hH1,g3,e1,outF,hv]
    exact st k1
   | some q =>
    rw[hv]at e1
    simp[Tryz.f51,hH1,g3,e1,outF,hv]
    exact st k1
 · obtain⟨K1,e1,r1⟩:=hrg rfl hc0 hil h1 hcs
   have r1':=r1.before kp
   generalize hW:stB R c.p c.ins (.mk 10 at_ x e body els br items)=W at r1' e1
   simp only[stB,hC]at hW ⊢
   rw[hW]
   cases W with
   | some q =>
    simp only[outF]at e1
    simp[Tryz.f51,hH1,g3,e1,outF]
    exact r1'
   | none =>
    simp only[outF]at e1
    simp[Tryz.f51,hH1,g3,e1,outF]
    exact r1'
 · -- 11
   obtain⟨K1,e1,k1⟩:=titems_run hE hT ha hok hgd h1 gI ni
   cases hv:itemsB R c.p [] items with
   | none =>
    rw[hv]at e1
    simp only[outF]at e1
    simp[Tryz.f51,hH1,g3,e1,outF,hv]
    exact st k1
   | some q =>
    rw[hv]at e1
    simp only[outF]at e1
    simp[Tryz.f51,hH1,g3,e1,outF,hv]
    exact st k1
 · -- 12
   obtain⟨K1,e1,k1⟩:=titems_run hE hT ha hok hgd h1 gI ni
   cases hv:itemsB R c.p [] items with
   | none =>
    rw[hv]at e1
    simp only[outF]at e1
    simp[Tryz.f51,hH1,g3,e1,outF,hv]
    exact st k1
   | some q =>
    rw[hv]at e1
    simp only[outF]at e1
    simp[Tryz.f51,hH1,g3,e1,outF,hv]
    exact st k1
 · obtain⟨K1,e1,k1⟩:=tvar_run hE hT ha hok hgd h1 x at_ false
   obtain⟨K2,e2,k2⟩:=twant_run hE hT ha hok hgd (h1.keep k1) 1 (LX.of gE) ne wfe
   have g31:=k1.at g3 (by simp) (fun h=>h)
   cases hv:varB R c x at_ false with
   | some q =>
    rw[hv]at e1
    simp only[outF]at e1
    simp[Tryz.f51,hH1,g3,e1,outF,hv]
    exact st k1
   | none =>
    rw[hv]at e1
    simp only[outF]at e1
    cases hw:wantB R c 1 e with
    | none =>
     rw[hw]at e2
     simp only[outF]at e2
     simp[Tryz.f51,hH1,g3,e1,g31,e2,outF,hv,hw]
     exact st (k1.trans k2)
    | some q =>
     rw[hw]at e2
     simp only[outF]at e2
     simp[Tryz.f51,hH1,g3,e1,g31,e2,outF,hv,hw]
     exact st (k1.trans k2)
 · obtain⟨K1,e1,k1⟩:=tvar_run hE hT ha hok hgd h1 x at_ true
   obtain⟨K2,e2,k2⟩:=twant_run hE hT ha hok hgd (h1.keep k1) 1 (LX.of gE) ne wfe
   have g31:=k1.at g3 (by simp) (fun h=>h)
   cases hv:varB R c x at_ true with
   | some q =>
    rw[hv]at e1
    simp only[outF]at e1
    simp[Tryz.f51,hH1,g3,e1,outF,hv]
    exact st k1
   | none =>
    rw[hv]at e1
    simp only[outF]at e1
    cases hw:wantB R c 1 e with
    | none =>
     rw[hw]at e2
     simp only[outF]at e2
     simp[Tryz.f51,hH1,g3,e1,g31,e2,outF,hv,hw]
     exact st (k1.trans k2)
    | some q =>
     rw[hw]at e2
     simp only[outF]at e2
     simp[Tryz.f51,hH1,g3,e1,g31,e2,outF,hv,hw]
     exact st (k1.trans k2)
 · obtain⟨K1,e1,k1⟩:=twant_run hE hT ha hok hgd h1 1 (LX.of gE) ne wfe
   cases hv:wantB R c 1 e with
   | none =>
    rw[hv]at e1
    simp only[outF]at e1
    simp[Tryz.f51,hH1,g3,e1,outF,hv]
    exact st k1
   | some q =>
    rw[hv]at e1
    simp only[outF]at e1
    simp[Tryz.f51,hH1,g3,e1,outF,hv]
    exact st k1
end
end Go.Vm.Typing
