/- What is proved: the reference's 'Build'. What is proved: what a table tells of names: its methods. What is proved: copies of a table's lists. What is proved: what the reference's table tells of names: its methods. What is proved: what the reference's table tells of locals and regions, its cells and lists. What is proved: the table and the reference's table agree, of any source: plain words, without program or heap. What is defined and proved: what may stand where, in plain words: the first fault of statements, of any table. What is defined and proved: in statements without a fault a shared name is touched within a region of it alone. What is proved: whether a name stands in expressions, and in statements without a region of it around. What is proved: what a declaration's name means in a built table. What is proved: structs of whole numbers and strings, compared. What is proved: 'signalboxlaw26.same', of tables that agree. What is proved: the checker's small functions ('fail', 'means', 'must'). What is proved: the checker's 'variable'. What is proved: the checker's 'expr' and 'want'. What is proved: the checker's 'call'. What is proved: the reference's checker: its small functions ('bad', 'fault', 'variable', 'global'). What is proved: the reference's checker of expressions: 'expr' and 'want'. What is proved: the reference's checker of items and calls. What is proved: the checker's 'items'. What is proved: the checker's 'branches'. What is proved: the reference's checker of statements, but for regions: 'stmts'; what is to be shown of 'stmt'. What is proved: the checker's 'stmts', and 'stmt' but for regions. What is proved: the checker's 'stmt', if 'region' is as it should be. What is proved: the checker's 'region', and 'stmt' of any statement. What is proved: 'caught': what a function's panic tells, or nothing. What is proved: the reference's checker of regions, of statements, of a source. What is proved: the program's 'Check': the first fault of a source, or none. -/
import Derived.Test.YtpfjogcjmlhhfaaGreatDoorX5
set_option maxRecDepth 100000
set_option maxHeartbeats 4000000
set_option linter.unusedSimpArgs false
set_option linter.unusedVariables false
set_option linter.unusedSectionVars false
namespace Go.Vm.Scope
open Go Go.Proofs Go.Vm.Parse
attribute [local simp] repCells_succ writeAt rd_Fr toList_beq gpe gpn spe gse gsn ne_r0 ne_l0 le_s0 ne_r1 ne_l1 lt_s1 le_s1 ne_r2 ne_l2 lt_s2 le_s2 ne_r3 ne_l3 lt_s3 le_s3 ne_r4 ne_l4 lt_s4 le_s4 ne_r5 ne_l5 lt_s5 le_s5 ne_r6 ne_l6 lt_s6 le_s6 ne_r7 ne_l7 lt_s7 le_s7
def RDeclI (H:Heap)(sc:List Value)(ds:List Dcl)(res:Except (Int × Int) RT)(m:Nat)(t:List Value)(K:Heap):Prop :=
 ∃ k T col,k≤ds.length∧m=ds.length - k∧rd t 5 = .int .i64 k∧rdeclsB T (ds.drop k)=res∧RAt H K sc col T k 0
def RDeclJ (H:Heap)(sc:List Value)(res:Except (Int × Int) RT)(nd:Nat)(t:List Value)(K:Heap):Prop :=
 ∃ T col,res = .ok T∧RAt H K sc col T nd 0∧t.length=301∧rd t 1 = .pointer (some ⟨H.n,0,none⟩)∧rd t 3 = .pointer (some ⟨H.n+1,0,none⟩)∧rd t 4 = .pointer (some ⟨H.n+2,0,none⟩)
def RProcI (H:Heap)(sc:List Value)(ps:List Prc)(res:Except (Int × Int) RT)(nd:Nat)(m:Nat)(t:List Value)(K:Heap):Prop :=
 ∃ k T col,k≤ps.length∧m=ps.length - k∧rd t 10 = .int .i64 k∧rprocsB T (ps.drop k)=res∧RAt H K sc col T nd k
def RProcJ (H:Heap)(sc:List Value)(res:Except (Int × Int) RT)(t:List Value)(K:Heap):Prop :=
 ∃ T' col' nd np,res = .ok T'∧RAt H K sc col' T' nd np∧t.length=301∧rd t 3 = .pointer (some ⟨H.n+1,0,none⟩)∧rd t 4 = .pointer (some ⟨H.n+2,0,none⟩)
def CntI (K0:Heap)(kind:Int)(ms:List Nm)(m:Nat)(t:List Value)(K:Heap):Prop :=
 K=K0∧∃ k c:Nat,k≤ms.length∧m=ms.length - k∧rd t 8 = .int .i64 k∧rd t 7 = .int .i64 c∧c+cntP kind (ms.drop k)=cntP kind ms
def CntJ (K0:Heap)(kind:Int)(ms:List Nm)(t:List Value)(K:Heap):Prop:=K=K0∧rd t 7 = .int .i64 (cntP kind ms)
structure RSl (H:Heap)(k dn:Nat)(c:Nat)(t:List Value):Prop where
 len:t.length=301
 t1:rd t 1 = .pointer (some ⟨H.n,0,none⟩)
 t3:rd t 3 = .pointer (some ⟨H.n+1,0,none⟩)
 t4:rd t 4 = .pointer (some ⟨H.n+2,0,none⟩)
 t5:rd t 5 = .int .i64 k
 t6:rd t 6 = .pointer (some ⟨dn,0,none⟩)
 t7:rd t 7 = .int .i64 c
theorem RSl.of {H:Heap}{k dn c:Nat}{t t':List Value}(h:RSl H k dn c t)(hl:t'.length=t.length)(h2:AllRd t' t [1,3,4,5,6,7]):RSl H k dn c t':=by
 simp at h2
 exact⟨hl.trans h.len,h2.1.trans h.t1,h2.2.1.trans h.t3,h2.2.2.1.trans h.t4,h2.2.2.2.1.trans h.t5,h2.2.2.2.2.1.trans h.t6,h2.2.2.2.2.2.trans h.t7⟩
def RLocI (H K1:Heap)(k pn np:Nat)(ids:List Idn)(res:Except (Int × Int) (List ByteArray))(m:Nat)(t:List Value)(K:Heap):Prop :=
 Same (fun _=>False) K1 K∧∃ j acc v,j≤ids.length∧m=ids.length - j∧rd t 13 = .int .i64 j∧rd t 12=v∧repStr.G K (fun i=>K1.n≤i) v acc∧acc.length=j∧rlocB np acc j (ids.drop j)=res
def RLocJ (H K1:Heap)(res:Except (Int × Int) (List ByteArray))(t:List Value)(K:Heap):Prop :=
 Same (fun _=>False) K1 K∧∃ acc v,res = .ok acc∧rd t 12=v∧repStr.G K (fun i=>K1.n≤i) v acc
structure PSl (H:Heap)(k pn:Nat)(t:List Value):Prop where
 len:t.length=301
 t1:rd t 1 = .pointer (some ⟨H.n,0,none⟩)
 t3:rd t 3 = .pointer (some ⟨H.n+1,0,none⟩)
 t4:rd t 4 = .pointer (some ⟨H.n+2,0,none⟩)
 t10:rd t 10 = .int .i64 k
 t11:rd t 11 = .pointer (some ⟨pn,0,none⟩)
theorem PSl.of {H:Heap}{k dn:Nat}{t t':List Value}(h:PSl H k dn t)(hl:t'.length=t.length)(h2:AllRd t' t [1,3,4,10,11]):PSl H k dn t':=by
 simp at h2
 exact⟨hl.trans h.len,h2.1.trans h.t1,h2.2.1.trans h.t3,h2.2.2.1.trans h.t4,h2.2.2.2.1.trans h.t10,h2.2.2.2.2.trans h.t11⟩
section
variable {E:Hooks} (hE:Plain E)
include hE
theorem rbuild_run {H:Heap}{s:Src}{sc:List Value}(hs:RSrc H (fun i=>i<H.n) s sc)(hk4:∀ d∈s.decls,1≤d.kind∧d.kind≤4)(hq:∀ p∈s.procs,p.params.length+p.vars.length≤100000)(hl:s.decls.length≤100000)(hl2:s.procs.length≤100000) :
  Gives ((run Tryz.prog E).call 14 [.agg ⟨sc⟩] H) (RetRB H (rbuildB s)):=by
 obtain⟨w1,w2,w3,w4,rfl,hd,hp,hi,hb⟩:=hs
 obtain⟨b1,rfl⟩:=repDcl.G_slice hd
 obtain⟨b2,rfl⟩:=repPrc.G_slice hp
 obtain⟨b3,rfl⟩:=repItm.G_slice hi
 obtain⟨b4,rfl⟩:=repStm.G_slice hb
 generalize hsc:sr5 s.name (.slice b1 s.decls.length s.decls.length) (.slice b2 s.procs.length s.procs.length) (.slice b3 s.claims.length s.claims.length) (.slice b4 s.body.length s.body.length)=sc at *
 have hsc':=hsc
 simp only[sr5]at hsc'
 rw[c_rBuild hE,callB,bodyOf]
 subst hsc'
 simp[Tryz.f14]
 refine loop_mid2 (RDeclJ H (sr5 s.name (.slice b1 s.decls.length s.decls.length) (.slice b2 s.procs.length s.procs.length) (.slice b3 s.claims.length s.claims.length) (.slice b4 s.body.length s.body.length)) (rdeclsB rt0 s.decls) s.decls.length)
  (RDeclI H (sr5 s.name (.slice b1 s.decls.length s.decls.length) (.slice b2 s.procs.length s.procs.length) (.slice b3 s.claims.length s.claims.length) (.slice b4 s.body.length s.body.length)) s.decls (rdeclsB rt0 s.decls)) s.decls.length ?_ ?_ ?_
 · refine⟨0,rt0,fun i=>if i=H.n+2 then 1 else 0,Nat.zero_le _,by simp,by simp,by simp,?_⟩
   refine⟨((Same.push _ _ _).then_push _).then_push _,by simp[sr5,Heap.get_push],by simp[Heap.get_push],⟨nl,nl,nl,nl,nl,nl,?_,fun _=>⟨rfl,rfl,rfl⟩,fun _=>⟨rfl,rfl,rfl⟩⟩,fun i hi=>by rw[if_neg (by omega)],rfl,rfl,rfl,rfl,rfl,rfl⟩
   exact⟨by simp[Heap.get_push,rt6],by simp,repStr.G_nil _ _,repNm.G_nil _ _,repStr.G_nil _ _,repInt.G_nil _ _,repStrs.G_nil _ _,repInt.G_nil _ _,fun i hi=>by simp at hi;rw[if_neg (by omega)]⟩
 · rintro m t K hk ⟨k,T,col,hkl,rfl,g5,hres,hB⟩
   have ht:t.length=301:=hk.1.trans (by simp[len_Bs])
   have hh:=hk.all [1,3,4] (by decide +kernel)
   simp at hh
   obtain⟨u1,u3,u4⟩:=hh
   have g0:=hB.box
   have gr:=hB.res
   obtain⟨x1,x2,x3,x4,x5,x6,hT,_⟩:=hB.tab
   have nK:=hB.same.n
   have trK:H.n+1<K.n:=Heap.lt_of_get gr (by simp)
   have ttK:H.n+2<K.n:=Heap.lt_of_get hT.obj (by simp)
   simp only[sr5]at g0
   rcases Nat.lt_or_ge k s.decls.length with hlt | hge
   · obtain⟨id,tl,cs,e1,hid,_,hrow,hcl,hget,hle⟩:=repDcl.G_at hd hlt
     cases e1
     have hrK:=hB.same.at hrow (by simp) (fun h=>h)
     have hdrop:s.decls.drop k=s.decls[k] :: s.decls.drop (k+1):=List.drop_eq_getElem_cons hlt
     have hdk4:=hk4 s.decls[k] (List.getElem_mem hlt)
     generalize hdk:s.decls[k]=d at *
     rw[hdrop,rdeclsB]at hres
     simp only[repDcl,dsc]at hget hcl hle
     have hB1:=hB.keep (Same.push (fun _=>False) K (.row true 0 1 (dsc d.kind d.at_ d.name d.n))) (fun _ h=>h.elim)
     simp only[dsc]at hB1
     obtain⟨y1,y2,y3,y4,y5,y6,hT1,hz1,hz2⟩:=hB1.tab
     have gt1:=hT1.obj
     have gr1:=hB1.res
     have gd1:(K.push (.row true 0 1 (dsc d.kind d.at_ d.name d.n))).get K.n = .row true 0 1 (dsc d.kind d.at_ d.name d.n):=Heap.get_push_self _ _
     have eT:=hasText_run hE hT1.g1 (by have:=hB.n1;omega) d.name
     have w1:IntKind.i64.wrap ((k:Int)+1)=(k:Int)+1:=wrap64 _ (by omega) (by omega)
     simp only[dsc,rt6]at eT gt1 gr1 gd1
     simp[ht,u1,u3,u4,g5,g0,hlt,hrK,hcl,hle,hget]
     have n1:(K.push (.row true 0 1 [.int .i64 d.kind,.int .i64 d.at_,.string d.name,.int .i64 d.n])).n=K.n+1:=rfl
     generalize hK1:K.push (.row true 0 1 [.int .i64 d.kind,.int .i64 d.at_,.string d.name,.int .i64 d.n])=K1 at *
     refine region_quiet (by exact q_rb0) ?_
     simp[ht,u1,u3,u4,gt1,gd1,eT]
     by_cases c1:hasP T.names d.name=true
     · unfold rdclB at hres
       rw[if_pos c1]at hres
       unfold rbuildB
       rw[← hres]
       obtain⟨K2,eF,kF⟩:=rfault_run hE 17 d.at_ K1
       have gr2:=kF.at gr1 (by simp) (fun h=>h)
       have tr2:=Heap.lt_of_get gr2 (by simp)
       simp[ht,u1,u3,u4,c1,gd1,eF,gr2,tr2]
       exact⟨(hB1.same.trans kF).then_set tr2 (.inr (by omega)) _,rfl⟩
     have c1':hasP T.names d.name=false:=by simpa using c1
     obtain⟨y2b,ey2⟩:=repNm.G_slice hT1.g2
     subst ey2
     simp[ht,u1,u3,u4,c1']
     have nm:=hB1.n2
     refine loop_mid2 (CntJ K1 d.kind T.means) (CntI K1 d.kind T.means) T.means.length ?_ ?_ ?_
     · exact⟨rfl,0,0,Nat.zero_le _,by simp,by simp[ht],by simp[ht],by simp⟩
     · rintro m t1 K2 hk1 ⟨rfl,j,c,hj,rfl,g8,g7,hc⟩
       have ht1:t1.length=301:=hk1.1.trans (by simp[ht])
       have hh1:=hk1.all [4,6] (by decide +kernel)
       simp[ht,u4]at hh1
       obtain⟨z4,z6⟩:=hh1
       rcases Nat.lt_or_ge j T.means.length with hlt1 | hge1
       · obtain⟨mid,mtl,mcs,me,_,_,mrow,mcl,mget,mle⟩:=repNm.G_at hT1.g2 hlt1
         cases me
         have mdrop:T.means.drop j=T.means[j] :: T.means.drop (j+1):=List.drop_eq_getElem_cons hlt1
         rw[mdrop,cntP]at hc
         generalize T.means[j]=mm at *
         simp only[repNm]at mget mcl mle mrow
         have hm0:mcs[j * 3]? = some (.int .i64 mm.kind):=by
          have:=congrArg (fun q=>q[0]?) mget
          simpa using this
         have hm1:mcs[j * 3]'(by omega) = .int .i64 mm.kind:=(List.getElem?_eq_some_iff.1 hm0).2
         have w2:IntKind.i64.wrap ((j:Int)+1)=(j:Int)+1:=wrap64 _ (by omega) (by omega)
         have w3:IntKind.i64.wrap ((c:Int)+1)=(c:Int)+1:=wrap64 _ (by omega) (by have:=cntP_le d.kind T.means;omega)
         have ec:=fun k H=>rclass_run hE k H
         simp[ht1,z4,z6,g8,g7,gt1,hlt1]
         refine region_plan (by exact pl_rb1) ?_
         simp[ht1,z4,z6,g8,g7,gt1,hlt1,mrow,mcl,mle,hm0,hm1,gd1,ec]
         by_cases hcl:clsP mm.kind=clsP d.kind
         · rw[if_pos hcl]at hc
           simp[hcl,ht1,z4,z6,g8,g7,w2,w3]
           exact⟨T.means.length - (j+1),by omega,rfl,j+1,c+1,by omega,rfl,by simp[ht1],by simp[ht1],by omega⟩
         · rw[if_neg hcl]at hc
           simp[hcl,ht1,z4,z6,g8,g7,w2]
           exact⟨T.means.length - (j+1),by omega,rfl,j+1,c,by omega,rfl,by simp[ht1],by simp[ht1,g7],by omega⟩
       · have:j=T.means.length:=by omega
         subst this
         simp[ht1,z4,z6,g8,g7,gt1]
         rw[List.drop_length,cntP]at hc
         exact⟨rfl,by simp[ht1,g7];omega⟩
     · rintro t1 K2 hk1 ⟨rfl,g7⟩
       have ht1:t1.length=301:=hk1.1.trans (by simp[ht])
       have hh1:=hk1.all [1,3,4,5,6] (by decide +kernel)
       simp[ht,u1,u3,u4,g5]at hh1
       obtain⟨z1,z3,z4,z5,z6⟩:=hh1
       have sl:RSl H k K.n (cntP d.kind T.means) t1:=⟨ht1,z1,z3,z4,z5,z6,g7⟩
       have ec:=fun k H=>rclass_run hE k H
       have cle:=cntP_le d.kind T.means
       have tK2:K.n<K2.n:=by omega
       have r16:manyP T d→rdeclsB rt0 s.decls = .error (16,d.at_):=fun h=>by rw[← hres];unfold rdclB;rw[if_neg c1,if_pos h]
       have r24:¬manyP T d→unitsB d→rdeclsB rt0 s.decls = .error (24,d.at_):=fun h h'=>by rw[← hres];unfold rdclB;rw[if_neg c1,if_neg h,if_pos h']
       have rok:¬manyP T d→¬unitsB d→rdeclsB (rdclT T d) (s.decls.drop (k+1))=rdeclsB rt0 s.decls:=fun h h'=>by rw[← hres];unfold rdclB;rw[if_neg c1,if_neg h,if_neg h']
       rw[code_seq,ends_then]
       refine ends_cut2 (fun t K'=>K'=K2∧RSl H k K.n (cntP d.kind T.means) t∧¬manyP T d) ?_ ?_
       · have go:∀ (L:Nat),(d.kind=1→L=6)→(d.kind=2→L=8)→(clsP d.kind=3→L=16)→(L≤cntP d.kind T.means→manyP T d)∧(¬L≤cntP d.kind T.means→¬manyP T d):=fun L h1 h2 h3=>by
          unfold manyP
          have:d.kind=1∨d.kind=2∨clsP d.kind=3:=by unfold clsP;split<;>omega
          have x1:d.kind=1→clsP d.kind=1:=fun h=>by rw[h];rfl
          have x2:d.kind=2→clsP d.kind=2:=fun h=>by rw[h];rfl
          refine⟨fun h => ?_,fun h => ?_⟩
          · rcases this with e | e | e
            · exact .inl ⟨e,by have:=h1 e;omega⟩
            · exact .inr (.inl ⟨e,by have:=h2 e;omega⟩)
            · exact .inr (.inr ⟨e,by have:=h3 e;omega⟩)
          · rintro (⟨e,q⟩ | ⟨e,q⟩ | ⟨e,q⟩)
            · have:=h1 e;omega
            · have:=h2 e;omega
            · have:=h3 e;omega
         obtain⟨K3,eF,kF⟩:=rfault_run hE 16 d.at_ K2
         have gr3:=kF.at gr1 (by simp) (fun h=>h)
         have tr3:=Heap.lt_of_get gr3 (by simp)
         have kE:Same (fun _=>False) H (K3.set (H.n+1) (.row true 0 1 [.int .i64 16,.int .i64 d.at_])):=(hB1.same.trans kF).then_set tr3 (.inr (by omega)) _
         have fin:∀ t:List Value,RSl H k K.n (cntP d.kind T.means) t→¬manyP T d→K2=K2∧RSl H k K.n (cntP d.kind T.means) t∧¬manyP T d:=fun t h1 h2=>⟨rfl,h1,h2⟩
         rcases (show d.kind=1∨d.kind=2∨d.kind=3∨d.kind=4 by omega)with hk | hk | hk | hk
         · have gg:=go 6 (fun _=>rfl) (fun h=>by omega) (fun h=>by rw[hk]at h;exact absurd h (by decide))
           by_cases hm:6≤cntP d.kind T.means
           · have hm':(6:Int)≤cntP d.kind T.means:=by omega
             unfold rbuildB
             rw[r16 (gg.1 hm)]
             simp only[hk]at gd1 g7 sl hm'
             simp[sl.len,sl.t1,sl.t3,sl.t4,sl.t5,sl.t6,sl.t7,gd1,hm',eF,gr3,tr3,ec,clsP]
             exact⟨kE,rfl⟩
           · have hm':¬(6:Int)≤cntP d.kind T.means:=by omega
             have nm:=gg.2 hm
             simp only[hk]at gd1 g7 hm'
             have sl':=sl
             simp only[hk]at sl'
             simp[sl'.len,sl'.t1,sl'.t3,sl'.t4,sl'.t5,sl'.t6,sl'.t7,gd1,hm',ec,clsP]
             exact⟨sl.of (by simp) (by simp[sl.len]),nm⟩
         · have gg:=go 8 (fun h=>by omega) (fun _=>rfl) (fun h=>by rw[hk]at h;exact absurd h (by decide))
           by_cases hm:8≤cntP d.kind T.means
           · have hm':(8:Int)≤cntP d.kind T.means:=by omega
             unfold rbuildB
             rw[r16 (gg.1 hm)]
             simp only[hk]at gd1 g7 sl hm'
             simp[sl.len,sl.t1,sl.t3,sl.t4,sl.t5,sl.t6,sl.t7,gd1,hm',eF,gr3,tr3,ec,clsP]
             exact⟨kE,rfl⟩
           · have hm':¬(8:Int)≤cntP d.kind T.means:=by omega
             have nm:=gg.2 hm
             simp only[hk]at gd1 g7 hm'
             have sl':=sl
             simp only[hk]at sl'
             simp[sl'.len,sl'.t1,sl'.t3,sl'.t4,sl'.t5,sl'.t6,sl'.t7,gd1,hm',ec,clsP]
             exact⟨sl.of (by simp) (by simp[sl.len]),nm⟩
         · have gg:=go 16 (fun h=>by omega) (fun h=>by omega) (fun _=>rfl)
           by_cases hm:16≤cntP d.kind T.means
           · have hm':(16:Int)≤cntP d.kind T.means:=by omega
             unfold rbuildB
             rw[r16 (gg.1 hm)]
             simp only[hk]at gd1 g7 sl hm'
             simp[sl.len,sl.t1,sl.t3,sl.t4,sl.t5,sl.t6,sl.t7,gd1,hm',eF,gr3,tr3,ec,clsP]
             exact⟨kE,rfl⟩
           · have hm':¬(16:Int)≤cntP d.kind T.means:=by omega
             have nm:=gg.2 hm
             simp only[hk]at gd1 g7 hm'
             have sl':=sl
             simp only[hk]at sl'
             simp[sl'.len,sl'.t1,sl'.t3,sl'.t4,sl'.t5,sl'.t6,sl'.t7,gd1,hm',ec,clsP]
             exact⟨sl.of (by simp) (by simp[sl.len]),nm⟩
         · have gg:=go 16 (fun h=>by omega) (fun h=>by omega) (fun _=>rfl)
           by_cases hm:16≤cntP d.kind T.means
           · have hm':(16:Int)≤cntP d.kind T.means:=by omega
             unfold rbuildB
             rw[r16 (gg.1 hm)]
             simp only[hk]at gd1 g7 sl hm'
             simp[sl.len,sl.t1,sl.t3,sl.t4,sl.t5,sl.t6,sl.t7,gd1,hm',eF,gr3,tr3,ec,clsP]
             exact⟨kE,rfl⟩
           · have hm':¬(16:Int)≤cntP d.kind T.means:=by omega
             have nm:=gg.2 hm
             simp only[hk]at gd1 g7 hm'
             have sl':=sl
             simp only[hk]at sl'
             simp[sl'.len,sl'.t1,sl'.t3,sl'.t4,sl'.t5,sl'.t6,sl'.t7,gd1,hm',ec,clsP]
             exact⟨sl.of (by simp) (by simp[sl.len]),nm⟩
       rintro t2 K2 ⟨rfl,sl2,nmany⟩
       rw[code_seq,ends_then]
       refine ends_cut2 (fun t K'=>K'=K2∧RSl H k K.n (cntP d.kind T.means) t∧¬unitsB d) ?_ ?_
       · obtain⟨K3,eF,kF⟩:=rfault_run hE 24 d.at_ K2
         have gr3:=kF.at gr1 (by simp) (fun h=>h)
         have tr3:=Heap.lt_of_get gr3 (by simp)
         have kE:Same (fun _=>False) H (K3.set (H.n+1) (.row true 0 1 [.int .i64 24,.int .i64 d.at_])):=(hB1.same.trans kF).then_set tr3 (.inr (by omega)) _
         rcases (show d.kind=1∨d.kind=2∨d.kind=3∨d.kind=4 by omega)with hk | hk | hk | hk
         · by_cases q1:d.n<1
           · unfold rbuildB
             rw[r24 nmany (.inl ⟨hk,.inl q1⟩)]
             simp only[hk]at gd1 sl2
             simp[sl2.len,sl2.t1,sl2.t3,sl2.t4,sl2.t5,sl2.t6,sl2.t7,gd1,q1,eF,gr3,tr3]
             exact⟨kE,rfl⟩
           by_cases q2:1000<d.n
           · unfold rbuildB
             rw[r24 nmany (.inl ⟨hk,.inr q2⟩)]
             simp only[hk]at gd1 sl2
             simp[sl2.len,sl2.t1,sl2.t3,sl2.t4,sl2.t5,sl2.t6,sl2.t7,gd1,q1,q2,eF,gr3,tr3]
             exact⟨kE,rfl⟩
           · have nu:¬unitsB d:=fun h=>by unfold unitsB at h;omega
             have sl':=sl2
             simp only[hk]at gd1 sl'
             simp[sl'.len,sl'.t1,sl'.t3,sl'.t4,sl'.t5,sl'.t6,sl'.t7,gd1,q1,q2]
             exact⟨sl2.of (by simp) (by simp[sl2.len]),nu⟩
         · by_cases q1:d.n<0
           · unfold rbuildB
             rw[r24 nmany (.inr ⟨hk,.inl q1⟩)]
             simp only[hk]at gd1 sl2
             simp[sl2.len,sl2.t1,sl2.t3,sl2.t4,sl2.t5,sl2.t6,sl2.t7,gd1,q1,eF,gr3,tr3]
             exact⟨kE,rfl⟩
           by_cases q2:1000<d.n
           · unfold rbuildB
             rw[r24 nmany (.inr ⟨hk,.inr q2⟩)]
             simp only[hk]at gd1 sl2
             simp[sl2.len,sl2.t1,sl2.t3,sl2.t4,sl2.t5,sl2.t6,sl2.t7,gd1,q1,q2,eF,gr3,tr3]
             exact⟨kE,rfl⟩
           · have nu:¬unitsB d:=fun h=>by unfold unitsB at h;omega
             have sl':=sl2
             simp only[hk]at gd1 sl'
             simp[sl'.len,sl'.t1,sl'.t3,sl'.t4,sl'.t5,sl'.t6,sl'.t7,gd1,q1,q2]
             exact⟨sl2.of (by simp) (by simp[sl2.len]),nu⟩
         · have nu:¬unitsB d:=fun h=>by unfold unitsB at h;omega
           have sl':=sl2
           simp only[hk]at gd1 sl'
           simp[sl'.len,sl'.t1,sl'.t3,sl'.t4,sl'.t5,sl'.t6,sl'.t7,gd1]
           exact⟨sl2.of (by simp) (by simp[sl2.len]),nu⟩
         · have nu:¬unitsB d:=fun h=>by unfold unitsB at h;omega
           have sl':=sl2
           simp only[hk]at gd1 sl'
           simp[sl'.len,sl'.t1,sl'.t3,sl'.t4,sl'.t5,sl'.t6,sl'.t7,gd1]
           exact⟨sl2.of (by simp) (by simp[sl2.len]),nu⟩
       rintro t3 K2 ⟨rfl,sl3,nun⟩
       rw[code_seq,ends_then]
       refine ends_cut2 (fun t K'=>K'=K2.push (.row true 0 1 [.int .i64 d.kind,.int .i64 (cntP d.kind T.means),.int .i64 0])∧RSl H k K.n (cntP d.kind T.means) t∧rd t 9 = .pointer (some ⟨K2.n,0,none⟩)) ?_ ?_
       · simp[sl3.len,sl3.t1,sl3.t3,sl3.t4,sl3.t5,sl3.t6,sl3.t7,gd1]
         exact sl3.of (by simp) (by simp[sl3.len])
       rintro t4 _ ⟨rfl,sl4,s9⟩
       rw[code_seq,ends_then]
       refine ends_cut2 (fun t K'=>K'=K2.push (.row true 0 1 [.int .i64 d.kind,.int .i64 (cntP d.kind T.means),.int .i64 (if clsP d.kind=3 then d.n else 0)])∧RSl H k K.n (cntP d.kind T.means) t∧rd t 9 = .pointer (some ⟨K2.n,0,none⟩)) ?_ ?_
       · have gd2:∀ o:AObj,(K2.push o).get K.n=K2.get K.n:=fun o=>by rw[Heap.get_push,if_neg (by omega)]
         by_cases hc3:clsP d.kind=3
         · simp[sl4.len,sl4.t1,sl4.t3,sl4.t4,sl4.t5,sl4.t6,sl4.t7,s9,gd1,gd2,ec,hc3]
           exact sl4.of (by simp) (by simp[sl4.len])
         · simp[sl4.len,sl4.t1,sl4.t3,sl4.t4,sl4.t5,sl4.t6,sl4.t7,s9,gd1,gd2,ec,hc3]
           exact sl4.of (by simp) (by simp[sl4.len])
       rintro t5 _ ⟨rfl,sl5,s9⟩
       have gt0:=hT.tc
       have cz:∀ i,K.n≤i→col i=0:=hT.top
       have hX:∀ i,col i≠0→i<K.n:=fun i hi=>by
        rcases Nat.lt_or_ge i K.n with h | h
        · exact h
        · exact absurd (cz i h) hi
       have kM:Same (fun _=>False) K2 (K2.push (.row true 0 1 [.int .i64 d.kind,.int .i64 (cntP d.kind T.means),.int .i64 (if clsP d.kind=3 then d.n else 0)])):=Same.push _ _ _
       have hB3:=hB1.keep kM (fun _ h=>h.elim)
       have hT3:=hT1.keep kM (fun _ h=>h.elim)
       have gm3:(K2.push (.row true 0 1 [.int .i64 d.kind,.int .i64 (cntP d.kind T.means),.int .i64 (if clsP d.kind=3 then d.n else 0)])).get K2.n=_:=Heap.get_push_self _ _
       have gd3:=kM.at gd1 (by simp) (fun h=>h)
       have n3:(K2.push (.row true 0 1 [.int .i64 d.kind,.int .i64 (cntP d.kind T.means),.int .i64 (if clsP d.kind=3 then d.n else 0)])).n=K2.n+1:=rfl
       generalize hK3:K2.push (.row true 0 1 [.int .i64 d.kind,.int .i64 (cntP d.kind T.means),.int .i64 (if clsP d.kind=3 then d.n else 0)])=K3 at *
       have gt3:=hT3.obj
       simp only[rt6]at gt3
       have kR:Same (fun _=>False) K3 (Heap.room 6 K3):=room6 K3
       have nR:(Heap.room 6 K3).n=K3.n+6:=rfl
       obtain⟨H2,H4,H6,e2,e4,e6,q2,q4,q6,m2,m4,m6,G1,G2,G6⟩:=app3 repStr repNm repInt tf_str tf_nms tf_int kR nR (S1:=fun i=>col i=2) (S2:=fun i=>col i=3) (S3:=fun i=>col i=7)
        (fun i h=>by have:=hX i (by omega);omega) (fun i h=>by have:=hX i (by omega);omega) (fun i h=>by have:=hX i (by omega);omega) (fun i h=>by omega) (fun i h=>by omega) (fun i h=>by omega)
        hT3.g1 hT3.g2 hT3.g6 (a1:=d.name) (a2:=⟨d.kind,cntP d.kind T.means,if clsP d.kind=3 then d.n else 0⟩) (a3:=d.n) rfl rfl rfl (by have:=hB.n1;omega) (by have:=hB.n2;omega) (by have:=hB.n6;omega)
       simp only[repStr,repNm,repInt]at e2 e4 e6
       refine region_free (by exact no_rb2) (by exact la_rb2) (by exact pr_rb2) (by exact ok_rb2) (by exact ne_rb2) ?_
       generalize hR:Heap.room 6 K3=R at *
       have gtR:R.get (H.n+2)=_:=kR.at gt3 (by simp) (fun h=>h)
       have gdR:R.get K.n=_:=kR.at gd3 (by simp) (fun h=>h)
       have gt2:H2.get (H.n+2)=_:=q2.at gt3 (by simp) (by omega)
       have gm2:H2.get K2.n=_:=q2.at gm3 (by simp) (by have:=cz K2.n (by omega);omega)
       have gt4:H4.get (H.n+2)=_:=q4.at gt3 (by simp) (by omega)
       have gd4:H4.get K.n=_:=q4.at gd3 (by simp) (by have:=cz K.n (by omega);omega)
       have gt6:H6.get (H.n+2)=_:=q6.at gt3 (by simp) (by omega)
       have bs:∀ (A:Heap) (r:Nat) (x:ByteArray),r<A.n→exBuildSliceAt Tryz.prog 68 1 [(0,.string x)] r A=some (.slice (some ⟨r,0,none⟩) 1 1,A.set r (.row true 0 1 [.string x])):=fun A r x h=>by
        simp[exBuildSliceAt,Heap.pushAt_lt h];rfl
       have bi:∀ (A:Heap) (r:Nat) (x:Int),r<A.n→exBuildSliceAt Tryz.prog 22 1 [(0,.int .i64 x)] r A=some (.slice (some ⟨r,0,none⟩) 1 1,A.set r (.row true 0 1 [.int .i64 x])):=fun A r x h=>by
        simp[exBuildSliceAt,Heap.pushAt_lt h];rfl
       have bm:∀ (A:Heap) (r:Nat) (x y z:Int),r<A.n→exBuildSliceAt Tryz.prog 110 1 [(0,.agg ⟨[.int .i64 x,.int .i64 y,.int .i64 z]⟩)] r A=some (.slice (some ⟨r,0,none⟩) 1 1,A.set r (.row true 0 3 [.int .i64 x,.int .i64 y,.int .i64 z])):=fun A r x y z h=>by
        simp[exBuildSliceAt,Heap.pushAt_lt h];rfl
       have b1':=bs R K3.n d.name (by omega)
       have b2':=bm H2 (K3.n+2) d.kind (cntP d.kind T.means) (if clsP d.kind=3 then d.n else 0) (by omega)
       have b3':=bi H4 (K3.n+4) d.n (by omega)
       have t6':H.n+2<H6.n:=by omega
       have kF:Same (fun i=>col i=2∨col i=3∨col i=7∨i=H.n+2) K3 (H6.set (H.n+2) (.row true 0 1 (rt6 (.slice (some ⟨K3.n+1,0,none⟩) (T.names.length+1) (T.names.length+1)) (.slice (some ⟨K3.n+3,0,none⟩) (T.means.length+1) (T.means.length+1)) y3 y4 y5 (.slice (some ⟨K3.n+5,0,none⟩) (T.values.length+1) (T.values.length+1))))) :=
        (q6.mono fun i h=>by rcases h with h | h | h;exact .inl h;exact .inr (.inl h);exact .inr (.inr (.inl h))).trans (Same.set H6 t6' (.inr (.inr (.inr rfl))) _)
       have kS:Same (fun i=>i=H.n+2) H6 (H6.set (H.n+2) (.row true 0 1 (rt6 (.slice (some ⟨K3.n+1,0,none⟩) (T.names.length+1) (T.names.length+1)) (.slice (some ⟨K3.n+3,0,none⟩) (T.means.length+1) (T.means.length+1)) y3 y4 y5 (.slice (some ⟨K3.n+5,0,none⟩) (T.values.length+1) (T.values.length+1))))):=Same.set (X:=fun i=>i=H.n+2) H6 t6' rfl _
       have zz:=hB.zero
       have colv:∀ i,i<K3.n→(if i=K3.n+1 then 2 else if i=K3.n+3 then 3 else if i=K3.n+5 then 7 else col i)=col i:=fun i hi=>by rw[if_neg (by omega),if_neg (by omega),if_neg (by omega)]
       have next:RAt H (H6.set (H.n+2) (.row true 0 1 (rt6 (.slice (some ⟨K3.n+1,0,none⟩) (T.names.length+1) (T.names.length+1)) (.slice (some ⟨K3.n+3,0,none⟩) (T.means.length+1) (T.means.length+1)) y3 y4 y5 (.slice (some ⟨K3.n+5,0,none⟩) (T.values.length+1) (T.values.length+1)))))
         (sr5 s.name (.slice (some ⟨id,0,none⟩) s.decls.length s.decls.length) (.slice b2 s.procs.length s.procs.length) (.slice b3 s.claims.length s.claims.length) (.slice b4 s.body.length s.body.length)) (fun i=>if i=K3.n+1 then 2 else if i=K3.n+3 then 3 else if i=K3.n+5 then 7 else col i) (rdclT T d) (k+1) 0:=by
        refine⟨hB3.same.then kF (fun i hi => .inr ?_),kF.at hB3.box (by simp) ?_,kF.at hB3.res (by simp) ?_,⟨_,_,_,_,_,_,⟨Heap.get_set_self _ _ t6',by rw[colv _ (by omega)];exact gt0,?_,?_,?_,?_,?_,?_,?_⟩,fun h=>by omega,hz2⟩,fun i hi=>by rw[colv i (by omega)];exact zz i hi,by simp[rdclT];exact hB.n1,by simp[rdclT];exact hB.n2,by simp[rdclT];exact hB.n6,hB.n3,hB.n4,hB.n5⟩
        · have:=zz i
          omega
        · have:=zz H.n (by omega)
          omega
        · have:=zz (H.n+1) (by omega)
          omega
        · have:=repStr.G_move kS (S':=fun i=>(if i=K3.n+1 then 2 else if i=K3.n+3 then 3 else if i=K3.n+5 then 7 else col i)=2) (fun i hi hlt=>by
           rcases hi with h | h
           · have hk:=hX i (by omega)
             exact⟨by rw[colv i (by omega)];exact h,fun e=>by rw[e]at h;omega⟩
           · exact⟨by rw[if_pos h],by omega⟩) G1
          simpa [rdclT] using this
        · have:=repNm.G_move kS (S':=fun i=>(if i=K3.n+1 then 2 else if i=K3.n+3 then 3 else if i=K3.n+5 then 7 else col i)=3) (fun i hi hlt=>by
           rcases hi with h | h
           · have hk:=hX i (by omega)
             exact⟨by rw[colv i (by omega)];exact h,fun e=>by rw[e]at h;omega⟩
           · exact⟨by rw[if_neg (by omega),if_pos h],by omega⟩) G2
          simpa [rdclT] using this
        · exact repStr.G_move kF (fun i hi hlt=>⟨by have hk:=hX i (by omega);rw[colv i (by omega)];exact hi,fun e=>by
           rcases e with e | e | e | e
           · omega
           · omega
           · omega
           · rw[e]at hi;omega⟩) hT3.g3
        · exact repInt.G_move kF (fun i hi hlt=>⟨by have hk:=hX i (by omega);rw[colv i (by omega)];exact hi,fun e=>by
           rcases e with e | e | e | e
           · omega
           · omega
           · omega
           · rw[e]at hi;omega⟩) hT3.g4
        · exact repStrs.G_move kF (fun i hi hlt=>⟨by have hk:=hX i (by omega);rw[colv i (by omega)];exact hi,fun e=>by
           rcases e with e | e | e | e
           · omega
           · omega
           · omega
           · rw[e]at hi;omega⟩) hT3.g5
        · have:=repInt.G_move kS (S':=fun i=>(if i=K3.n+1 then 2 else if i=K3.n+3 then 3 else if i=K3.n+5 then 7 else col i)=7) (fun i hi hlt=>by
           rcases hi with h | h
           · have hk:=hX i (by omega)
             exact⟨by rw[colv i (by omega)];exact h,fun e=>by rw[e]at h;omega⟩
           · exact⟨by rw[if_neg (by omega),if_neg (by omega),if_pos h],by omega⟩) G6
          simpa [rdclT] using this
        · intro i hi
          have hi':K3.n+6≤i:=by rw[← m6];exact hi
          rw[if_neg (by omega),if_neg (by omega),if_neg (by omega)]
          exact cz i (by omega)
       rcases Nat.eq_zero_or_pos k with hk0 | hk0
       · obtain⟨f1,f2,f6⟩:=hz1 hk0
         subst f1
         simp only[nl,Value.slice.injEq]at f2
         obtain⟨rfl,_,_⟩:=f2
         subst f6
         simp only[nl]at e2 e6
         simp[sl5.len,sl5.t1,sl5.t3,sl5.t4,sl5.t5,sl5.t6,sl5.t7,s9,gtR,gdR,b1',e2,gt2,gm2,b2',e4,gt4,gd4,b3',e6,gt6,t6']
         have ne:∀ {a b:Nat},a<b→(a=b)=False∧(b=a)=False:=fun h=>⟨eq_false (by omega),eq_false (by omega)⟩
         have ap0:=ne (show H.n+2<K.n by omega)
         have ap1:=ne (show H.n+2<K2.n by omega)
         have ap2:=ne (show H.n+2<K3.n by omega)
         have ap3:=ne (show H.n+2<K3.n+1 by omega)
         have ap4:=ne (show H.n+2<K3.n+2 by omega)
         have ap5:=ne (show H.n+2<K3.n+2+1 by omega)
         have ap6:=ne (show H.n+2<K3.n+3 by omega)
         have ap7:=ne (show H.n+2<K3.n+4 by omega)
         have ap8:=ne (show H.n+2<K3.n+4+1 by omega)
         have ap9:=ne (show H.n+2<K3.n+5 by omega)
         have ap10:=ne (show K.n<K2.n by omega)
         have ap11:=ne (show K.n<K3.n by omega)
         have ap12:=ne (show K.n<K3.n+1 by omega)
         have ap13:=ne (show K.n<K3.n+2 by omega)
         have ap14:=ne (show K.n<K3.n+2+1 by omega)
         have ap15:=ne (show K.n<K3.n+3 by omega)
         have ap16:=ne (show K.n<K3.n+4 by omega)
         have ap17:=ne (show K.n<K3.n+4+1 by omega)
         have ap18:=ne (show K.n<K3.n+5 by omega)
         have ap19:=ne (show K2.n<K3.n by omega)
         have ap20:=ne (show K2.n<K3.n+1 by omega)
         have ap21:=ne (show K2.n<K3.n+2 by omega)
         have ap22:=ne (show K2.n<K3.n+2+1 by omega)
         have ap23:=ne (show K2.n<K3.n+3 by omega)
         have ap24:=ne (show K2.n<K3.n+4 by omega)
         have ap25:=ne (show K2.n<K3.n+4+1 by omega)
         have ap26:=ne (show K2.n<K3.n+5 by omega)
         have s1:=ne (show H.n<K3.n by omega)
         have s2:=ne (show H.n+1<K3.n by omega)
         have s3:=ne (show H.n<K3.n+1 by omega)
         simp (config:={ decide:=true }) [pre_rb2,List.elem_eq_mem,s1,s2,s3,sl5.len,sl5.t5,w1,ap0,ap1,ap2,ap3,ap4,ap5,ap6,ap7,ap8,ap9,ap10,ap11,ap12,ap13,ap14,ap15,ap16,ap17,ap18,ap19,ap20,ap21,ap22,ap23,ap24,ap25,ap26]
         exact⟨s.decls.length - (k+1),by omega,k+1,_,_,by omega,rfl,by simp[sl5.len],rok nmany nun,next⟩
       · obtain⟨p1,f1,cp1,hp1⟩:=repStr.G_some hT3.g1 (by have:=hB.n1;omega)
         obtain⟨p2,f2,cp2,hp2⟩:=repNm.G_some hT3.g2 (by have:=hB.n2;omega)
         obtain⟨p6,f6,cp6,hp6⟩:=repInt.G_some hT3.g6 (by have:=hB.n6;omega)
         subst f1
         cases f2
         subst f6
         simp[sl5.len,sl5.t1,sl5.t3,sl5.t4,sl5.t5,sl5.t6,sl5.t7,s9,gtR,gdR,b1',e2,gt2,gm2,b2',e4,gt4,gd4,b3',e6,gt6,t6']
         have h1':=hX p1 (by omega)
         have h2':=hX p2 (by omega)
         have h6':=hX p6 (by omega)
         have ne:∀ {a b:Nat},a<b→(a=b)=False∧(b=a)=False:=fun h=>⟨eq_false (by omega),eq_false (by omega)⟩
         have nq:∀ {a b:Nat},a≠b→(a=b)=False∧(b=a)=False:=fun h=>⟨eq_false h,eq_false fun e=>h e.symm⟩
         have o1:=nq (show p1≠H.n+2 from fun e=>by rw[e]at cp1;omega)
         have o2:=nq (show p2≠H.n+2 from fun e=>by rw[e]at cp2;omega)
         have o3:=nq (show p6≠H.n+2 from fun e=>by rw[e]at cp6;omega)
         have o4:=nq (show p1≠p2 from fun e=>by rw[e]at cp1;omega)
         have o5:=nq (show p1≠p6 from fun e=>by rw[e]at cp1;omega)
         have o6:=nq (show p2≠p6 from fun e=>by rw[e]at cp2;omega)
         have ap0:=ne (show H.n+2<K.n by omega)
         have ap1:=ne (show H.n+2<K2.n by omega)
         have ap2:=ne (show H.n+2<K3.n by omega)
         have ap3:=ne (show H.n+2<K3.n+1 by omega)
         have ap4:=ne (show H.n+2<K3.n+2 by omega)
         have ap5:=ne (show H.n+2<K3.n+2+1 by omega)
         have ap6:=ne (show H.n+2<K3.n+3 by omega)
         have ap7:=ne (show H.n+2<K3.n+4 by omega)
         have ap8:=ne (show H.n+2<K3.n+4+1 by omega)
         have ap9:=ne (show H.n+2<K3.n+5 by omega)
         have ap10:=ne (show K.n<K2.n by omega)
         have ap11:=ne (show K.n<K3.n by omega)
         have ap12:=ne (show K.n<K3.n+1 by omega)
         have ap13:=ne (show K.n<K3.n+2 by omega)
         have ap14:=ne (show K.n<K3.n+2+1 by omega)
         have ap15:=ne (show K.n<K3.n+3 by omega)
         have ap16:=ne (show K.n<K3.n+4 by omega)
         have ap17:=ne (show K.n<K3.n+4+1 by omega)
         have ap18:=ne (show K.n<K3.n+5 by omega)
         have ap19:=ne (show K2.n<K3.n by omega)
         have ap20:=ne (show K2.n<K3.n+1 by omega)
         have ap21:=ne (show K2.n<K3.n+2 by omega)
         have ap22:=ne (show K2.n<K3.n+2+1 by omega)
         have ap23:=ne (show K2.n<K3.n+3 by omega)
         have ap24:=ne (show K2.n<K3.n+4 by omega)
         have ap25:=ne (show K2.n<K3.n+4+1 by omega)
         have ap26:=ne (show K2.n<K3.n+5 by omega)
         have ap27:=ne (show p1<K.n by omega)
         have ap28:=ne (show p1<K2.n by omega)
         have ap29:=ne (show p1<K3.n by omega)
         have ap30:=ne (show p1<K3.n+1 by omega)
         have ap31:=ne (show p1<K3.n+2 by omega)
         have ap32:=ne (show p1<K3.n+2+1 by omega)
         have ap33:=ne (show p1<K3.n+3 by omega)
         have ap34:=ne (show p1<K3.n+4 by omega)
         have ap35:=ne (show p1<K3.n+4+1 by omega)
         have ap36:=ne (show p1<K3.n+5 by omega)
         have ap37:=ne (show p2<K.n by omega)
         have ap38:=ne (show p2<K2.n by omega)
         have ap39:=ne (show p2<K3.n by omega)
         have ap40:=ne (show p2<K3.n+1 by omega)
         have ap41:=ne (show p2<K3.n+2 by omega)
         have ap42:=ne (show p2<K3.n+2+1 by omega)
         have ap43:=ne (show p2<K3.n+3 by omega)
         have ap44:=ne (show p2<K3.n+4 by omega)
         have ap45:=ne (show p2<K3.n+4+1 by omega)
         have ap46:=ne (show p2<K3.n+5 by omega)
         have ap47:=ne (show p6<K.n by omega)
         have ap48:=ne (show p6<K2.n by omega)
         have ap49:=ne (show p6<K3.n by omega)
         have ap50:=ne (show p6<K3.n+1 by omega)
         have ap51:=ne (show p6<K3.n+2 by omega)
         have ap52:=ne (show p6<K3.n+2+1 by omega)
         have ap53:=ne (show p6<K3.n+3 by omega)
         have ap54:=ne (show p6<K3.n+4 by omega)
         have ap55:=ne (show p6<K3.n+4+1 by omega)
         have ap56:=ne (show p6<K3.n+5 by omega)
         have s1:=ne (show H.n<K3.n by omega)
         have s2:=ne (show H.n+1<K3.n by omega)
         have s3:=ne (show H.n<K3.n+1 by omega)
         simp (config:={ decide:=true }) [pre_rb2,List.elem_eq_mem,s1,s2,s3,sl5.len,sl5.t5,w1,o1,o2,o3,o4,o5,o6,ap0,ap1,ap2,ap3,ap4,ap5,ap6,ap7,ap8,ap9,ap10,ap11,ap12,ap13,ap14,ap15,ap16,ap17,ap18,ap19,ap20,ap21,ap22,ap23,ap24,ap25,ap26,ap27,ap28,ap29,ap30,ap31,ap32,ap33,ap34,ap35,ap36,ap37,ap38,ap39,ap40,ap41,ap42,ap43,ap44,ap45,ap46,ap47,ap48,ap49,ap50,ap51,ap52,ap53,ap54,ap55,ap56]
         exact⟨s.decls.length - (k+1),by omega,k+1,_,_,by omega,rfl,by simp[sl5.len],rok nmany nun,next⟩
   · have:k=s.decls.length:=by omega
     subst this
     rw[List.drop_length,rdeclsB]at hres
     simp[ht,u1,u3,u4,g5,g0]
     exact⟨T,col,hres.symm,hB,by simp[ht],by simp[ht,u1],by simp[ht,u3],by simp[ht,u4]⟩
 · rintro t K hk ⟨T,col,hres,hB,ht,u1,u3,u4⟩
   have hrb:rbuildB s=rprocsB T s.procs:=by unfold rbuildB;rw[hres]
   rw[hrb]
   generalize hsc2:sr5 s.name (.slice b1 s.decls.length s.decls.length) (.slice b2 s.procs.length s.procs.length) (.slice b3 s.claims.length s.claims.length) (.slice b4 s.body.length s.body.length)=sc2 at *
   simp[ht,u1,u3,u4]
   refine loop_mid2 (RProcJ H sc2 (rprocsB T s.procs)) (RProcI H sc2 s.procs (rprocsB T s.procs) s.decls.length) s.procs.length ?_ ?_ ?_
   · exact⟨0,T,col,Nat.zero_le _,by simp,by simp[ht],by simp,hB⟩
   · clear hB hres hrb
     rintro m t1 K hk1 ⟨k,T1,col,hkl,rfl,g10,hres,hB⟩
     have ht1:t1.length=301:=hk1.1.trans (by simp[ht])
     have hh1:=hk1.all [1,3,4] (by decide +kernel)
     simp[ht,u1,u3,u4]at hh1
     obtain⟨z1,z3,z4⟩:=hh1
     have g0:=hB.box
     rw[← hsc2]at g0
     have gr:=hB.res
     obtain⟨x1,x2,x3,x4,x5,x6,hT,_⟩:=hB.tab
     have nK:=hB.same.n
     have trK:H.n+1<K.n:=Heap.lt_of_get gr (by simp)
     have ttK:H.n+2<K.n:=Heap.lt_of_get hT.obj (by simp)
     simp only[sr5]at g0
     rcases Nat.lt_or_ge k s.procs.length with hlt | hge
     · obtain⟨id,tl,cs,e1,hid,_,hrow,hcl,hget,hle⟩:=repPrc.G_at hp hlt
       cases e1
       have hrK:=hB.same.at hrow (by simp) (fun h=>h)
       have hdrop:s.procs.drop k=s.procs[k] :: s.procs.drop (k+1):=List.drop_eq_getElem_cons hlt
       have hpq:=hq s.procs[k] (List.getElem_mem hlt)
       generalize hpk:s.procs[k]=p at *
       rw[hdrop,rprocsB]at hres
       obtain⟨w1,w2,w3,hc,gp,gv,gb⟩:=hget
       obtain⟨a1,rfl⟩:=repIdn.G_slice gp
       obtain⟨a2,rfl⟩:=repIdn.G_slice gv
       obtain⟨a3,rfl⟩:=repStm.G_slice gb
       simp only[repPrc,pc5]at hc hcl hle
       have hB1:=hB.keep (Same.push (fun _=>False) K (.row true 0 1 [.int .i64 p.at_,.string p.name,.slice a1 p.params.length p.params.length,.slice a2 p.vars.length p.vars.length,.slice a3 p.body.length p.body.length])) (fun _ h=>h.elim)
       obtain⟨y1,y2,y3,y4,y5,y6,hT1,hz1,hz2⟩:=hB1.tab
       have gt1:=hT1.obj
       have gr1:=hB1.res
       have gp1:(K.push (.row true 0 1 [.int .i64 p.at_,.string p.name,.slice a1 p.params.length p.params.length,.slice a2 p.vars.length p.vars.length,.slice a3 p.body.length p.body.length])).get K.n=_:=Heap.get_push_self _ _
       have eT1:=hasText_run hE hT1.g1 (by have:=hB.n1;omega) p.name
       have eT2:=hasText_run hE hT1.g3 (by have:=hB.n3;omega) p.name
       have w1:IntKind.i64.wrap ((k:Int)+1)=(k:Int)+1:=wrap64 _ (by omega) (by omega)
       simp only[rt6]at gt1
       simp[ht1,z1,z3,z4,g10,g0,hlt,hrK,hcl,hle,hc]
       have n1:(K.push (.row true 0 1 [.int .i64 p.at_,.string p.name,.slice a1 p.params.length p.params.length,.slice a2 p.vars.length p.vars.length,.slice a3 p.body.length p.body.length])).n=K.n+1:=rfl
       generalize hK1:K.push (.row true 0 1 [.int .i64 p.at_,.string p.name,.slice a1 p.params.length p.params.length,.slice a2 p.vars.length p.vars.length,.slice a3 p.body.length p.body.length])=K1 at *
       refine region_quiet (by exact q_rb3) ?_
       have sl:PSl H k K.n (Fr t1 [(11,.pointer (some ⟨K.n,0,none⟩))]):=by
        refine⟨by simp[ht1],by simp[ht1,z1],by simp[ht1,z3],by simp[ht1,z4],by simp[ht1,g10],by simp[ht1]⟩
       by_cases c1:hasP T1.names p.name=true∨hasP T1.procs p.name=true
       · obtain⟨K2,eF,kF⟩:=rfault_run hE 17 p.at_ K1
         have gr2:=kF.at gr1 (by simp) (fun h=>h)
         have tr2:=Heap.lt_of_get gr2 (by simp)
         have r17:rprocsB T s.procs = .error (17,p.at_):=by rw[← hres];unfold rprcB;rw[if_pos c1]
         rw[r17]
         have kE:Same (fun _=>False) H (K2.set (H.n+1) (.row true 0 1 [.int .i64 17,.int .i64 p.at_])):=(hB1.same.trans kF).then_set tr2 (.inr (by omega)) _
         by_cases c2:hasP T1.names p.name=true
         · simp[ht1,z1,z3,z4,g10,gt1,gp1,eT1,c2,eF,gr2,tr2]
           exact⟨kE,rfl⟩
         · have c3:=c1.resolve_left c2
           have c2':hasP T1.names p.name=false:=by simpa using c2
           simp[ht1,z1,z3,z4,g10,gt1,gp1,eT1,eT2,c2',c3,eF,gr2,tr2]
           exact⟨kE,rfl⟩
       have c2:hasP T1.names p.name=false:=by simpa using fun h=>c1 (.inl h)
       have c3:hasP T1.procs p.name=false:=by simpa using fun h=>c1 (.inr h)
       obtain⟨y3b,ey3⟩:=repStr.G_slice hT1.g3
       subst ey3
       have np:=hB.n3
       by_cases c4:12≤T1.procs.length
       · obtain⟨K2,eF,kF⟩:=rfault_run hE 16 p.at_ K1
         have gr2:=kF.at gr1 (by simp) (fun h=>h)
         have tr2:=Heap.lt_of_get gr2 (by simp)
         have r16:rprocsB T s.procs = .error (16,p.at_):=by rw[← hres];unfold rprcB;rw[if_neg c1,if_pos c4]
         rw[r16]
         have kE:Same (fun _=>False) H (K2.set (H.n+1) (.row true 0 1 [.int .i64 16,.int .i64 p.at_])):=(hB1.same.trans kF).then_set tr2 (.inr (by omega)) _
         have c4':(12:Int)≤T1.procs.length:=by omega
         simp[ht1,z1,z3,z4,g10,gt1,gp1,eT1,eT2,c2,c3,c4,c4',eF,gr2,tr2]
         exact⟨kE,rfl⟩
       have c4':¬(12:Int)≤T1.procs.length:=by omega
       have rerr:∀ q,rlocB p.params.length [] 0 (p.params++p.vars) = .error q→rprocsB T s.procs = .error q:=fun q h=>by rw[← hres];unfold rprcB;rw[if_neg c1,if_neg c4,h]
       have rgo:∀ l,rlocB p.params.length [] 0 (p.params++p.vars) = .ok l→rprocsB (rprcT T1 p l) (s.procs.drop (k+1))=rprocsB T s.procs:=fun l h=>by rw[← hres];unfold rprcB;rw[if_neg c1,if_neg c4,h]
       simp[ht1,z1,z3,z4,g10,gt1,gp1,eT1,eT2,c2,c3,c4,c4']
       have hidl:(p.params++p.vars).length=p.params.length+p.vars.length:=List.length_append
       have hidx:∀ j,(p.params++p.vars)[j]? = if j<p.params.length then p.params[j]? else p.vars[j - p.params.length]? := fun j=>List.getElem?_append
       generalize hids:p.params++p.vars=ids at *
       generalize hr0:rlocB p.params.length [] 0 ids=res at *
       refine loop_mid2 (RLocJ H K1 res) (RLocI H K1 k K.n p.params.length ids res) ids.length ?_ ?_ ?_
       · exact⟨Same.push _ _ _,0,[],.slice (some ⟨K1.n,0,none⟩) 0 0,Nat.zero_le _,by simp,by simp[ht1],by simp[ht1],repStr.G_empty K1 (Nat.le_refl _),rfl,hr0⟩
       · rintro m t2 K2 hk2 ⟨kK,j,acc,v,hj,rfl,g13,g12,gA,hal,hrl⟩
         have ht2:t2.length=301:=hk2.1.trans (by simp[ht1])
         have hh2:=hk2.all [1,3,4,10,11] (by decide +kernel)
         simp[ht1,z1,z3,z4,g10]at hh2
         obtain⟨x1',x3',x4',x10',x11'⟩:=hh2
         have gp2:=kK.at gp1 (by simp) (fun h=>h)
         have gr2:=kK.at gr1 (by simp) (fun h=>h)
         have nK2:=kK.n
         have w3:IntKind.i64.wrap ((p.params.length:Int)+p.vars.length)=(p.params.length:Int)+p.vars.length:=wrap64 _ (by omega) (by omega)
         have w4:IntKind.i64.wrap ((j:Int)+1)=(j:Int)+1:=wrap64 _ (by omega) (by omega)
         obtain⟨vb,rfl⟩:=repStr.G_slice gA
         rcases Nat.lt_or_ge j ids.length with hlt2 | hge2
         · have hjlt:(j:Int)<(p.params.length:Int)+p.vars.length:=by omega
           have idrop:ids.drop j=ids[j] :: ids.drop (j+1):=List.drop_eq_getElem_cons hlt2
           have hxj:=hidx j
           rw[List.getElem?_eq_getElem hlt2]at hxj
           rw[idrop]at hrl
           generalize hx:ids[j]=x at *
           rw[rlocB]at hrl
           have kX:∀ o:AObj,Same (fun _=>False) H (K2.push o):=fun o=>(hB1.same.trans kK).then_push o
           have q2:∀ o:AObj,(K2.push o).get K.n=K2.get K.n:=fun o=>by rw[Heap.get_push,if_neg (by omega)]
           have qr:∀ o:AObj,(K2.push o).get (H.n+1)=K2.get (H.n+1):=fun o=>by rw[Heap.get_push,if_neg (by omega)]
           have gA3:repStr.G (K2.push (.row true 0 1 [.int .i64 x.at_,.string x.name])) (fun i=>K1.n≤i) (.slice vb acc.length acc.length) acc:=repStr.G_move (Same.push (fun _=>False) _ _) (fun i hi _=>⟨hi,fun h=>h⟩) gA
           have eT3:=hasText_run hE gA3 (by omega) x.name
           have vlt:∀ i,vid (.slice vb acc.length acc.length) i→K1.n≤i∧i<K2.n:=fun i hi=>⟨(repStr.G_lt gA hi).2,(repStr.G_lt gA hi).1⟩
           have gA4:repStr.G (K2.push (.row true 0 1 [.int .i64 x.at_,.string x.name])) (fun i=>K1.n≤i) (.slice vb acc.length acc.length) acc:=gA3
           obtain⟨v',K4,e4,g4,k4⟩:=repStr.G_app tf_str gA4 (fun i hi=>by simp at hi;omega) (by omega) (a:=x.name) (c:=[.string x.name]) rfl
           obtain⟨vb',rfl⟩:=repStr.G_slice g4
           have e5:(acc++[x.name]).length=acc.length+1:=by simp
           rw[e5]at e4 g4
           simp only[repStr,Heap.n_push]at e4
           have fin:¬((j<p.params.length∧4≤j)∨8≤j)→hasP acc x.name=false→∀ t:List Value,rd t 13 = .int .i64 ((j:Int)+1)→rd t 12 = .slice vb' (acc.length+1) (acc.length+1)→RLocI H K1 k K.n p.params.length ids res (ids.length - (j+1)) t K4:=fun hc hf t h13 h12 =>
            ⟨(kK.then_push _).then k4 (fun i hi => .inr (vlt i hi).1),j+1,acc++[x.name],_,by omega,rfl,by rw[h13];simp,h12,g4,by simp;omega,by rw[if_neg (by simp[hf]),if_neg hc]at hrl;exact hrl⟩
           obtain⟨KF,eF,kF⟩:=rfault_run hE 17 x.at_ (K2.push (.row true 0 1 [.int .i64 x.at_,.string x.name]))
           obtain⟨KG,eG,kG⟩:=rfault_run hE 16 x.at_ (K2.push (.row true 0 1 [.int .i64 x.at_,.string x.name]))
           have grF:=kF.at ((qr _).trans gr2) (by simp) (fun h=>h)
           have grG:=kG.at ((qr _).trans gr2) (by simp) (fun h=>h)
           have trF:=Heap.lt_of_get grF (by simp)
           have trG:=Heap.lt_of_get grG (by simp)
           have kEF:Same (fun _=>False) H (KF.set (H.n+1) (.row true 0 1 [.int .i64 17,.int .i64 x.at_])):=((kX _).trans kF).then_set trF (.inr (by omega)) _
           have kEG:Same (fun _=>False) H (KG.set (H.n+1) (.row true 0 1 [.int .i64 16,.int .i64 x.at_])):=((kX _).trans kG).then_set trG (.inr (by omega)) _
           have r17:hasP acc x.name=true→rprocsB T s.procs = .error (17,x.at_):=fun h=>rerr _ (by rw[if_pos h]at hrl;exact hrl.symm)
           have r16:hasP acc x.name=false→(j<p.params.length∧4≤j)∨8≤j→rprocsB T s.procs = .error (16,x.at_):=fun h h'=>rerr _ (by rw[if_neg (by simp[h]),if_pos h']at hrl;exact hrl.symm)
           by_cases d1:j<p.params.length
           · have d1':(j:Int)<p.params.length:=by omega
             obtain⟨aid,atl,acs,ae,_,alt,arow,acl,aget,ale⟩:=repIdn.G_at gp d1
             cases ae
             have hx':p.params[j]=x:=by rw[if_pos d1,List.getElem?_eq_getElem d1]at hxj;exact (Option.some.inj hxj).symm
             rw[hx']at aget
             simp only[repIdn,Idn.cells]at aget acl ale arow
             have arX:=fun o:AObj=>(kX o).at arow (by simp) (fun h=>h)
             by_cases hf:hasP acc x.name=true
             · rw[r17 hf]
               simp[ht2,x1',x3',x4',x10',x11',g13,g12,gp2,w3,hjlt,q2,d1,d1',arX,acl,ale,aget,eT3,hf,eF,grF,trF]
               exact⟨kEF,rfl⟩
             have hf':hasP acc x.name=false:=by simpa using hf
             by_cases d2:4≤j
             · have d2':(4:Int)≤j:=by omega
               rw[r16 hf' (.inl ⟨d1,d2⟩)]
               simp[ht2,x1',x3',x4',x10',x11',g13,g12,gp2,w3,hjlt,q2,d1,d1',arX,acl,ale,aget,eT3,hf',d2,d2',eG,grG,trG]
               exact⟨kEG,rfl⟩
             · have d2':¬(4:Int)≤j:=by omega
               have d3':¬(8:Int)≤j:=by omega
               simp[ht2,x1',x3',x4',x10',x11',g13,g12,gp2,w3,hjlt,q2,d1,d1',arX,acl,ale,aget,eT3,hf',d2,d2',d3',e4,w4]
               exact⟨_,by omega,fin (by omega) hf' _ (by simp[ht2]) (by simp[ht2])⟩
           · have d1':¬(j:Int)<p.params.length:=by omega
             have dv:j - p.params.length<p.vars.length:=by omega
             obtain⟨aid,atl,acs,ae,_,alt,arow,acl,aget,ale⟩:=repIdn.G_at gv dv
             cases ae
             have hx':p.vars[j - p.params.length]=x:=by rw[if_neg d1,List.getElem?_eq_getElem dv]at hxj;exact (Option.some.inj hxj).symm
             rw[hx']at aget
             simp only[repIdn,Idn.cells]at aget acl ale arow
             have arX:=fun o:AObj=>(kX o).at arow (by simp) (fun h=>h)
             have w5:IntKind.i64.wrap ((j:Int) - p.params.length)=((j - p.params.length:Nat):Int):=by rw[wrap64 _ (by omega) (by omega)];omega
             have dvi:((j - p.params.length:Nat):Int)<p.vars.length:=by omega
             by_cases hf:hasP acc x.name=true
             · rw[r17 hf]
               simp[ht2,x1',x3',x4',x10',x11',g13,g12,gp2,w3,hjlt,q2,d1,d1',arX,acl,ale,aget,w5,dv,dvi,eT3,hf,eF,grF,trF]
               exact⟨kEF,rfl⟩
             have hf':hasP acc x.name=false:=by simpa using hf
             by_cases d3:8≤j
             · have d3':(8:Int)≤j:=by omega
               rw[r16 hf' (.inr d3)]
               simp[ht2,x1',x3',x4',x10',x11',g13,g12,gp2,w3,hjlt,q2,d1,d1',arX,acl,ale,aget,w5,dv,dvi,eT3,hf',d3,d3',eG,grG,trG]
               exact⟨kEG,rfl⟩
             · have d3':¬(8:Int)≤j:=by omega
               simp[ht2,x1',x3',x4',x10',x11',g13,g12,gp2,w3,hjlt,q2,d1,d1',arX,acl,ale,aget,w5,dv,dvi,eT3,hf',d3,d3',e4,w4]
               exact⟨_,by omega,fin (by omega) hf' _ (by simp[ht2]) (by simp[ht2])⟩
         · have:j=ids.length:=by omega
           subst this
           rw[List.drop_length,rlocB]at hrl
           have hjlt:¬((ids.length:Int)<(p.params.length:Int)+p.vars.length):=by omega
           simp[ht2,x1',x3',x4',x10',x11',g13,g12,gp2,w3,hjlt]
           exact⟨kK,acc,_,hrl.symm,by simp[ht2,g12],gA⟩
       · rintro t2 K2 hk2 ⟨kK,acc,v,hra,g12,gA⟩
         have ht2:t2.length=301:=hk2.1.trans (by simp[ht1])
         have hh2:=hk2.all [1,3,4,10,11] (by decide +kernel)
         simp[ht1,z1,z3,z4,g10]at hh2
         obtain⟨x1',x3',x4',x10',x11'⟩:=hh2
         subst g12
         obtain⟨vb,evb⟩:=repStr.G_slice gA
         have gt0:=hT.tc
         have cz:∀ i,K.n≤i→col i=0:=hT.top
         have hX:∀ i,col i≠0→i<K.n:=fun i hi=>by
          rcases Nat.lt_or_ge i K.n with h | h
          · exact h
          · exact absurd (cz i h) hi
         have hB3:=hB1.keep kK (fun _ h=>h.elim)
         have hT3:=hT1.keep kK (fun _ h=>h.elim)
         have gp3:=kK.at gp1 (by simp) (fun h=>h)
         have nK2:=kK.n
         have gt3:=hT3.obj
         simp only[rt6]at gt3
         have kR:Same (fun _=>False) K2 (Heap.room 6 K2):=room6 K2
         have nR:(Heap.room 6 K2).n=K2.n+6:=rfl
         have g5':repStrs.G K2 (fun i=>col i=6∨(K1.n≤i∧i<K2.n)) y5 T1.locals:=repStrs.G_move (Same.refl (fun _=>False) _) (fun i hi _=>⟨.inl hi,fun h=>h⟩) hT3.g5
         have v5lt:∀ i,vid y5 i→col i=6:=fun i hi=>(repStrs.G_lt hT3.g5 hi).2
         obtain⟨H2,H4,H6,e2,e4,e6,q2,q4,q6,m2,m4,m6,G3,G4,G5⟩:=app3 repStr repInt repStrs tf_str tf_int tf_strs kR nR (S1:=fun i=>col i=4) (S2:=fun i=>col i=5) (S3:=fun i=>col i=6∨(K1.n≤i∧i<K2.n))
          (fun i h=>by have:=hX i (by omega);omega) (fun i h=>by have:=hX i (by omega);omega) (fun i h=>by
           rcases h with h | h
           · have:=hX i (by omega);omega
           · omega) (fun i h=>by omega) (fun i h h'=>by
           have:=hX i (by omega)
           rcases h' with h' | h'<;>omega) (fun i h h'=>by
           have:=hX i (by omega)
           rcases h' with h' | h'<;>omega)
          hT3.g3 hT3.g4 g5' (a1:=p.name) (a2:=(p.params.length:Int)) (a3:=acc) rfl rfl ⟨rd t2 12,rfl,repStr.G_move (Same.refl (fun _=>False) _) (fun i hi hl=>⟨⟨.inr ⟨hi,hl⟩,fun e=>by have:=v5lt i e;have:=cz i (by omega);omega⟩,fun h=>h⟩) gA⟩ (by omega) (by have:=hB.n4;omega) (by have:=hB.n5;omega)
         simp only[repStr,repInt,repStrs]at e2 e4 e6
         refine region_free (by exact no_rb4) (by exact la_rb4) (by exact pr_rb4) (by exact ok_rb4) (by exact ne_rb4) ?_
         generalize hR:Heap.room 6 K2=R at *
         have gtR:R.get (H.n+2)=_:=kR.at gt3 (by simp) (fun h=>h)
         have gpR:R.get K.n=_:=kR.at gp3 (by simp) (fun h=>h)
         have gt2:H2.get (H.n+2)=_:=q2.at gt3 (by simp) (by omega)
         have gp2:H2.get K.n=_:=q2.at gp3 (by simp) (by have:=cz K.n (by omega);omega)
         have gt4:H4.get (H.n+2)=_:=q4.at gt3 (by simp) (by omega)
         have gt6:H6.get (H.n+2)=_:=q6.at gt3 (by simp) (by omega)
         have bs:∀ (A:Heap) (r:Nat) (x:ByteArray),r<A.n→exBuildSliceAt Tryz.prog 68 1 [(0,.string x)] r A=some (.slice (some ⟨r,0,none⟩) 1 1,A.set r (.row true 0 1 [.string x])):=fun A r x h=>by
          simp[exBuildSliceAt,Heap.pushAt_lt h];rfl
         have bi:∀ (A:Heap) (r:Nat) (x:Int),r<A.n→exBuildSliceAt Tryz.prog 22 1 [(0,.int .i64 x)] r A=some (.slice (some ⟨r,0,none⟩) 1 1,A.set r (.row true 0 1 [.int .i64 x])):=fun A r x h=>by
          simp[exBuildSliceAt,Heap.pushAt_lt h];rfl
         have bl:∀ (A:Heap) (r:Nat),r<A.n→exBuildSliceAt Tryz.prog 111 1 [(0,rd t2 12)] r A=some (.slice (some ⟨r,0,none⟩) 1 1,A.set r (.row true 0 1 [rd t2 12])):=fun A r h=>by
          rw[evb]
          simp[exBuildSliceAt,Heap.pushAt_lt h];rfl
         have b1':=bs R K2.n p.name (by omega)
         have b2':=bi H2 (K2.n+2) p.params.length (by omega)
         have b3':=bl H4 (K2.n+4) (by omega)
         have t6':H.n+2<H6.n:=by omega
         have kF:Same (fun i=>col i=4∨col i=5∨col i=6∨i=H.n+2∨(K1.n≤i∧i<K2.n)) K2 (H6.set (H.n+2) (.row true 0 1 (rt6 y1 y2 (.slice (some ⟨K2.n+1,0,none⟩) (T1.procs.length+1) (T1.procs.length+1)) (.slice (some ⟨K2.n+3,0,none⟩) (T1.heads.length+1) (T1.heads.length+1)) (.slice (some ⟨K2.n+5,0,none⟩) (T1.locals.length+1) (T1.locals.length+1)) y6))) :=
          (q6.mono fun i h=>by
           rcases h with h | h | h | h
           · exact .inl h
           · exact .inr (.inl h)
           · exact .inr (.inr (.inl h))
           · exact .inr (.inr (.inr (.inr h)))).trans (Same.set H6 t6' (.inr (.inr (.inr (.inl rfl)))) _)
         have kS:Same (fun i=>i=H.n+2) H6 (H6.set (H.n+2) (.row true 0 1 (rt6 y1 y2 (.slice (some ⟨K2.n+1,0,none⟩) (T1.procs.length+1) (T1.procs.length+1)) (.slice (some ⟨K2.n+3,0,none⟩) (T1.heads.length+1) (T1.heads.length+1)) (.slice (some ⟨K2.n+5,0,none⟩) (T1.locals.length+1) (T1.locals.length+1)) y6))):=Same.set (X:=fun i=>i=H.n+2) H6 t6' rfl _
         have zz:=hB.zero
         have colv:∀ i,i<K1.n→(if i=K2.n+1 then 4 else if i=K2.n+3 then 5 else if i=K2.n+5 then 6 else if K1.n≤i∧i<K2.n then 6 else col i)=col i:=fun i hi=>by rw[if_neg (by omega),if_neg (by omega),if_neg (by omega),if_neg (by omega)]
         have next:∀ sc,K2.get H.n = .row true 0 1 sc→RAt H (H6.set (H.n+2) (.row true 0 1 (rt6 y1 y2 (.slice (some ⟨K2.n+1,0,none⟩) (T1.procs.length+1) (T1.procs.length+1)) (.slice (some ⟨K2.n+3,0,none⟩) (T1.heads.length+1) (T1.heads.length+1)) (.slice (some ⟨K2.n+5,0,none⟩) (T1.locals.length+1) (T1.locals.length+1)) y6))) sc (fun i=>(if i=K2.n+1 then 4 else if i=K2.n+3 then 5 else if i=K2.n+5 then 6 else if K1.n≤i∧i<K2.n then 6 else col i)) (rprcT T1 p acc) s.decls.length (k+1):=by
          intro sc hsc
          refine⟨hB3.same.then kF (fun i hi => .inr ?_),kF.at hsc (by simp) ?_,kF.at hB3.res (by simp) ?_,⟨_,_,_,_,_,_,⟨Heap.get_set_self _ _ t6',by rw[colv _ (by omega)];exact gt0,?_,?_,?_,?_,?_,?_,?_⟩,hz1,fun h=>by omega⟩,fun i hi=>by rw[colv i (by omega)];exact zz i hi,hB.n1,hB.n2,hB.n6,by simp[rprcT];exact hB.n3,by simp[rprcT];exact hB.n4,by simp[rprcT];exact hB.n5⟩
          · have:=zz i
            omega
          · have:=zz H.n (by omega)
            omega
          · have:=zz (H.n+1) (by omega)
            omega
          · exact repStr.G_move kF (fun i hi hlt=>⟨by have hk:=hX i (by omega);rw[colv i (by omega)];exact hi,fun e=>by
             have hk:=hX i (by omega)
             rcases e with e | e | e | e | e
             · omega
             · omega
             · omega
             · rw[e]at hi;omega
             · omega⟩) hT3.g1
          · exact repNm.G_move kF (fun i hi hlt=>⟨by have hk:=hX i (by omega);rw[colv i (by omega)];exact hi,fun e=>by
             have hk:=hX i (by omega)
             rcases e with e | e | e | e | e
             · omega
             · omega
             · omega
             · rw[e]at hi;omega
             · omega⟩) hT3.g2
          · have:=repStr.G_move kS (S':=fun i=>(if i=K2.n+1 then 4 else if i=K2.n+3 then 5 else if i=K2.n+5 then 6 else if K1.n≤i∧i<K2.n then 6 else col i)=4) (fun i hi hlt=>by
             rcases hi with h | h
             · have hk:=hX i (by omega)
               exact⟨by rw[colv i (by omega)];exact h,fun e=>by rw[e]at h;omega⟩
             · exact⟨by rw[if_pos h],by omega⟩) G3
            simpa [rprcT] using this
          · have:=repInt.G_move kS (S':=fun i=>(if i=K2.n+1 then 4 else if i=K2.n+3 then 5 else if i=K2.n+5 then 6 else if K1.n≤i∧i<K2.n then 6 else col i)=5) (fun i hi hlt=>by
             rcases hi with h | h
             · have hk:=hX i (by omega)
               exact⟨by rw[colv i (by omega)];exact h,fun e=>by rw[e]at h;omega⟩
             · exact⟨by rw[if_neg (by omega),if_pos h],by omega⟩) G4
            simpa [rprcT] using this
          · have:=repStrs.G_move kS (S':=fun i=>(if i=K2.n+1 then 4 else if i=K2.n+3 then 5 else if i=K2.n+5 then 6 else if K1.n≤i∧i<K2.n then 6 else col i)=6) (fun i hi hlt=>by
             rcases hi with (h | h) | h
             · have hk:=hX i (by omega)
               exact⟨by rw[colv i (by omega)];exact h,fun e=>by rw[e]at h;omega⟩
             · exact⟨by rw[if_neg (by omega),if_neg (by omega),if_neg (by omega),if_pos h],by omega⟩
             · exact⟨by rw[if_neg (by omega),if_neg (by omega),if_pos h],by omega⟩) G5
            simpa [rprcT] using this
          · exact repInt.G_move kF (fun i hi hlt=>⟨by have hk:=hX i (by omega);rw[colv i (by omega)];exact hi,fun e=>by
             have hk:=hX i (by omega)
             rcases e with e | e | e | e | e
             · omega
             · omega
             · omega
             · rw[e]at hi;omega
             · omega⟩) hT3.g6
          · intro i hi
            have hi':K2.n+6≤i:=by rw[← m6];exact hi
            rw[if_neg (by omega),if_neg (by omega),if_neg (by omega),if_neg (by omega)]
            exact cz i (by omega)
         rcases Nat.eq_zero_or_pos k with hk0 | hk0
         · obtain⟨f3,f4,f5⟩:=hz2 hk0
           simp only[nl,Value.slice.injEq]at f3
           obtain⟨rfl,_,_⟩:=f3
           subst f4
           subst f5
           simp only[nl]at e4 e6
           simp[ht2,x1',x3',x4',x10',x11',gtR,gpR,b1',e2,gt2,gp2,b2',e4,gt4,b3',e6,gt6,t6']
           have ne:∀ {a b:Nat},a<b→(a=b)=False∧(b=a)=False:=fun h=>⟨eq_false (by omega),eq_false (by omega)⟩
           have nq:∀ {a b:Nat},a≠b→(a=b)=False∧(b=a)=False:=fun h=>⟨eq_false h,eq_false fun e=>h e.symm⟩
           have s1:=ne (show H.n<K2.n by omega)
           have s2:=ne (show H.n+1<K2.n by omega)
           have s3:=ne (show H.n<K2.n+1 by omega)
           have ap0:=ne (show H.n+2<K.n by omega)
           have ap1:=ne (show H.n+2<K2.n by omega)
           have ap2:=ne (show H.n+2<K2.n+1 by omega)
           have ap3:=ne (show H.n+2<K2.n+2 by omega)
           have ap4:=ne (show H.n+2<K2.n+2+1 by omega)
           have ap5:=ne (show H.n+2<K2.n+3 by omega)
           have ap6:=ne (show H.n+2<K2.n+4 by omega)
           have ap7:=ne (show H.n+2<K2.n+4+1 by omega)
           have ap8:=ne (show H.n+2<K2.n+5 by omega)
           have ap9:=ne (show K.n<K2.n by omega)
           have ap10:=ne (show K.n<K2.n+1 by omega)
           have ap11:=ne (show K.n<K2.n+2 by omega)
           have ap12:=ne (show K.n<K2.n+2+1 by omega)
           have ap13:=ne (show K.n<K2.n+3 by omega)
           have ap14:=ne (show K.n<K2.n+4 by omega)
           have ap15:=ne (show K.n<K2.n+4+1 by omega)
           have ap16:=ne (show K.n<K2.n+5 by omega)
           simp (config:={ decide:=true }) [pre_rb4,List.elem_eq_mem,s1,s2,s3,ht2,x10',w1,ap0,ap1,ap2,ap3,ap4,ap5,ap6,ap7,ap8,ap9,ap10,ap11,ap12,ap13,ap14,ap15,ap16]
           exact⟨s.procs.length - (k+1),by omega,k+1,_,_,by omega,rfl,by simp[ht2],rgo acc hra,next _ hB3.box⟩
         · obtain⟨p3,f3,cp3,hp3⟩:=repStr.G_some hT3.g3 (by omega)
           obtain⟨p4,f4,cp4,hp4⟩:=repInt.G_some hT3.g4 (by have:=hB.n4;omega)
           obtain⟨p5,f5,cp5,hp5⟩:=repStrs.G_some hT3.g5 (by have:=hB.n5;omega)
           cases f3
           subst f4
           subst f5
           simp[ht2,x1',x3',x4',x10',x11',gtR,gpR,b1',e2,gt2,gp2,b2',e4,gt4,b3',e6,gt6,t6']
           have h3':=hX p3 (by omega)
           have h4':=hX p4 (by omega)
           have h5':=hX p5 (by omega)
           have ne:∀ {a b:Nat},a<b→(a=b)=False∧(b=a)=False:=fun h=>⟨eq_false (by omega),eq_false (by omega)⟩
           have nq:∀ {a b:Nat},a≠b→(a=b)=False∧(b=a)=False:=fun h=>⟨eq_false h,eq_false fun e=>h e.symm⟩
           have s1:=ne (show H.n<K2.n by omega)
           have s2:=ne (show H.n+1<K2.n by omega)
           have s3:=ne (show H.n<K2.n+1 by omega)
           have o1:=nq (show p3≠H.n+2 from fun e=>by rw[e]at cp3;omega)
           have o2:=nq (show p4≠H.n+2 from fun e=>by rw[e]at cp4;omega)
           have o3:=nq (show p5≠H.n+2 from fun e=>by rw[e]at cp5;omega)
           have o4:=nq (show p3≠p4 from fun e=>by rw[e]at cp3;omega)
           have o5:=nq (show p3≠p5 from fun e=>by rw[e]at cp3;omega)
           have o6:=nq (show p4≠p5 from fun e=>by rw[e]at cp4;omega)
           have ap0:=ne (show H.n+2<K.n by omega)
           have ap1:=ne (show H.n+2<K2.n by omega)
           have ap2:=ne (show H.n+2<K2.n+1 by omega)
           have ap3:=ne (show H.n+2<K2.n+2 by omega)
           have ap4:=ne (show H.n+2<K2.n+2+1 by omega)
           have ap5:=ne (show H.n+2<K2.n+3 by omega)
           have ap6:=ne (show H.n+2<K2.n+4 by omega)
           have ap7:=ne (show H.n+2<K2.n+4+1 by omega)
           have ap8:=ne (show H.n+2<K2.n+5 by omega)
           have ap9:=ne (show K.n<K2.n by omega)
           have ap10:=ne (show K.n<K2.n+1 by omega)
           have ap11:=ne (show K.n<K2.n+2 by omega)
           have ap12:=ne (show K.n<K2.n+2+1 by omega)
           have ap13:=ne (show K.n<K2.n+3 by omega)
           have ap14:=ne (show K.n<K2.n+4 by omega)
           have ap15:=ne (show K.n<K2.n+4+1 by omega)
           have ap16:=ne (show K.n<K2.n+5 by omega)
           have ap17:=ne (show p3<K.n by omega)
           have ap18:=ne (show p3<K2.n by omega)
           have ap19:=ne (show p3<K2.n+1 by omega)
           have ap20:=ne (show p3<K2.n+2 by omega)
           have ap21:=ne (show p3<K2.n+2+1 by omega)
           have ap22:=ne (show p3<K2.n+3 by omega)
           have ap23:=ne (show p3<K2.n+4 by omega)
           have ap24:=ne (show p3<K2.n+4+1 by omega)
           have ap25:=ne (show p3<K2.n+5 by omega)
           have ap26:=ne (show p4<K.n by omega)
           have ap27:=ne (show p4<K2.n by omega)
           have ap28:=ne (show p4<K2.n+1 by omega)
           have ap29:=ne (show p4<K2.n+2 by omega)
           have ap30:=ne (show p4<K2.n+2+1 by omega)
           have ap31:=ne (show p4<K2.n+3 by omega)
           have ap32:=ne (show p4<K2.n+4 by omega)
           have ap33:=ne (show p4<K2.n+4+1 by omega)
           have ap34:=ne (show p4<K2.n+5 by omega)
           have ap35:=ne (show p5<K.n by omega)
           have ap36:=ne (show p5<K2.n by omega)
           have ap37:=ne (show p5<K2.n+1 by omega)
           have ap38:=ne (show p5<K2.n+2 by omega)
           have ap39:=ne (show p5<K2.n+2+1 by omega)
           have ap40:=ne (show p5<K2.n+3 by omega)
           have ap41:=ne (show p5<K2.n+4 by omega)
           have ap42:=ne (show p5<K2.n+4+1 by omega)
           have ap43:=ne (show p5<K2.n+5 by omega)
           simp (config:={ decide:=true }) [pre_rb4,List.elem_eq_mem,s1,s2,s3,ht2,x10',w1,o1,o2,o3,o4,o5,o6,ap0,ap1,ap2,ap3,ap4,ap5,ap6,ap7,ap8,ap9,ap10,ap11,ap12,ap13,ap14,ap15,ap16,ap17,ap18,ap19,ap20,ap21,ap22,ap23,ap24,ap25,ap26,ap27,ap28,ap29,ap30,ap31,ap32,ap33,ap34,ap35,ap36,ap37,ap38,ap39,ap40,ap41,ap42,ap43]
           exact⟨s.procs.length - (k+1),by omega,k+1,_,_,by omega,rfl,by simp[ht2],rgo acc hra,next _ hB3.box⟩
     · have:k=s.procs.length:=by omega
       subst this
       rw[List.drop_length,rprocsB]at hres
       simp[ht1,z1,z3,z4,g10,g0]
       exact⟨T1,col,_,_,hres.symm,hB,by simp[ht1],by simp[ht1,z3],by simp[ht1,z4]⟩
   · rintro t1 K1 hk1 ⟨T',col',nd,np,hok,hB,ht1,z3,z4⟩
     have gr:=hB.res
     have tr:=Heap.lt_of_get gr (by simp)
     obtain⟨x1,x2,x3,x4,x5,x6,hT,_⟩:=hB.tab
     have ttK:H.n+2<K1.n:=Heap.lt_of_get hT.obj (by simp)
     simp[ht1,z3,z4,gr,tr]
     rw[hok]
     have kS:Same (fun i=>i=H.n+1) K1 (K1.set (H.n+1) (.row true 0 1 [.int .i64 0,.int .i64 0])):=Same.set (X:=fun i=>i=H.n+1) K1 tr rfl _
     exact⟨hB.same.then_set tr (.inr (by omega)) _,col',H.n+2,_,_,_,_,_,_,rfl,hT.keep kS (fun i hi=>by rw[hi];exact hB.zero _ (Nat.le_refl _)),fun i hi=>hB.zero i (by omega)⟩
end
def nmV (o:Option Nm):Value:=(o.map Nm.v).getD zN
def inV (o:Option Int):Value := .int .i64 (o.getD 0)
theorem inV_eq (o:Option Int):(o.map vI).getD (.int .i64 0)=inV o:=by cases o<;>rfl
theorem nmV_three (o:Option Nm):∃ a b c,nmV o = .agg ⟨[.int .i64 a,.int .i64 b,.int .i64 c]⟩:=nm_three o
def localsAt (T:Tab)(i:Int):List (ByteArray × Int):=if i<0 then []else (T.locals[i.toNat]?).getD []
def paramAt (T:Tab)(i:Int):Int:=if i<0 then 0 else (T.params[i.toNat]?).getD 0
section
variable {E:Hooks} (hE:Plain E)
include hE
theorem c_sGlobal (args:List Value)(H:Heap):(run Tryz.prog E).call 87 args H=callB Tryz.prog E Tryz.f87 args H:=call_B Tryz.func87 rfl (by decide +kernel) (hE.no _ rfl rfl) args H
theorem c_sProcN (args:List Value)(H:Heap):(run Tryz.prog E).call 88 args H=callB Tryz.prog E Tryz.f88 args H:=call_B Tryz.func88 rfl (by decide +kernel) (hE.no _ rfl rfl) args H
theorem c_sLocal (args:List Value)(H:Heap):(run Tryz.prog E).call 9 args H=callB Tryz.prog E Tryz.f9 args H:=call_B Tryz.func9 rfl (by decide +kernel) (hE.no _ rfl rfl) args H
theorem c_sParams (args:List Value)(H:Heap):(run Tryz.prog E).call 86 args H=callB Tryz.prog E Tryz.f86 args H:=call_B Tryz.func86 rfl (by decide +kernel) (hE.no _ rfl rfl) args H
variable {H:Heap} {col:Nat→Nat} {tid nid pid rid:Nat} {v1 v2 v3 v4 v5:Value} {T:Tab} (h:RTab H col tid nid pid rid v1 v2 v3 v4 v5 T)
include h
theorem global_run (x:ByteArray):∃ H',(run Tryz.prog E).call 87 [.pointer (some ⟨tid,0,none⟩),.string x] H=some (.val (.tuple #[nmV (findP x T.names),.bool (findP x T.names).isSome]),H')∧Same (fun _=>False) H H':=by
 suffices key:Gives ((run Tryz.prog E).call 87 [.pointer (some ⟨tid,0,none⟩),.string x] H) fun o H'=>o = .val (.tuple #[nmV (findP x T.names),.bool (findP x T.names).isSome])∧Same (fun _=>False) H H' by
  obtain⟨o,H',e,rfl,k⟩:=key
  exact⟨H',e,k⟩
 have lt:=h.lt
 have g0:∀ o:AObj,(H.push o).get tid=_:=fun o=>(Same.push (fun _=>False) H o).at h.obj (by simp) (fun h=>h)
 have f1:=fun o:AObj=>look_names (H:=H.push o) (nid:=nid) (l:=T.names) ((Same.push (fun _=>False) H o).at h.nm (by simp) (fun h=>h)) x
 obtain⟨a,b,c,e1⟩:=nmV_three (findP x T.names)
 have e1':((findP x T.names).map Nm.v).getD zN=_:=e1
 rw[e1']at f1
 rw[e1]
 rw[c_sGlobal hE,callB,bodyOf]
 simp[Tryz.f87,g0,f1]
 exact ((Same.push (fun _=>False) H _).then_push _).then_set (by simp) (.inr (by simp)) _
theorem procN_run (x:ByteArray):∃ H',(run Tryz.prog E).call 88 [.pointer (some ⟨tid,0,none⟩),.string x] H=some (.val (.tuple #[inV (findP x T.procs),.bool (findP x T.procs).isSome]),H')∧Same (fun _=>False) H H':=by
 suffices key:Gives ((run Tryz.prog E).call 88 [.pointer (some ⟨tid,0,none⟩),.string x] H) fun o H'=>o = .val (.tuple #[inV (findP x T.procs),.bool (findP x T.procs).isSome])∧H'=H by
  obtain⟨o,H',e,rfl,rfl⟩:=key
  exact⟨_,e,Same.refl _ _⟩
 have g0:=h.obj
 have f1:=look_ints h.pm x
 rw[inV_eq]at f1
 unfold inV at f1 ⊢
 rw[c_sProcN hE,callB,bodyOf]
 simp[Tryz.f88,g0,f1]
theorem look_loc {w:Value}{l:List (ByteArray × Int)}(hl:(w = .map none∧l=[])∨∃ id,w = .map (some id)∧H.get id = .map (ents vI l))(x:ByteArray) :
  exLookup Tryz.prog 80 w (.string x) true H=some (.tuple #[inV (findP x l),.bool (findP x l).isSome])∧exLen Tryz.prog [80] w H=some (.int .i64 l.length):=by
 have _:=hE
 have _:=h
 rcases hl with⟨rfl,rfl⟩ | ⟨id,rfl,hg⟩
 · exact⟨by simp[exLookup,keyKind,findP,inV],by simp[exLen]⟩
 · have:=look_ints hg x
   rw[inV_eq]at this
   exact⟨this,len_ints hg⟩
theorem local_run (i:Int)(x:ByteArray)(hi:T.locals.length≤1000):∃ H',(run Tryz.prog E).call 9 [.pointer (some ⟨tid,0,none⟩),.int .i64 i,.string x] H=some (.val (.tuple #[inV (findP x (localsAt T i)),.bool (findP x (localsAt T i)).isSome]),H')∧Same (fun _=>False) H H':=by
 suffices key:Gives ((run Tryz.prog E).call 9 [.pointer (some ⟨tid,0,none⟩),.int .i64 i,.string x] H) fun o H'=>o = .val (.tuple #[inV (findP x (localsAt T i)),.bool (findP x (localsAt T i)).isSome])∧H'=H by
  obtain⟨o,H',e,rfl,rfl⟩:=key
  exact⟨_,e,Same.refl _ _⟩
 have g0:=h.obj
 obtain⟨b1,rfl⟩:=repLoc.G_slice h.g1
 rw[c_sLocal hE,callB,bodyOf]
 unfold localsAt
 by_cases h0:i<0
 · simp[Tryz.f9,g0,h0,findP,inV]
 · obtain⟨n,rfl⟩:∃ n:Nat,i=n:=⟨i.toNat,by omega⟩
   rw[if_neg h0,show ((n:Int).toNat)=n from rfl]
   by_cases h1:n<T.locals.length
   · have h1':¬(T.locals.length:Int)≤n:=by omega
     obtain⟨id,tl,cs,e1,_,_,hrow,hcl,hget,hle⟩:=repLoc.G_at h.g1 h1
     cases e1
     rw[List.getElem?_eq_getElem h1,Option.getD_some]
     generalize T.locals[n]=l at *
     simp only[repLoc,Nat.mul_one]at hget hcl hle hrow
     have hw:∃ w,cs[n]? = some w∧((w = .map none∧l=[])∨∃ id,w = .map (some id)∧H.get id = .map (ents vI l)):=by
      rcases hget with⟨e,e'⟩ | ⟨id,e,_,hg⟩
      · exact⟨.map none,by have:=congrArg (fun q=>q[0]?) e;simpa using this,.inl ⟨rfl,e'⟩⟩
      · exact⟨.map (some id),by have:=congrArg (fun q=>q[0]?) e;simpa using this,.inr ⟨id,rfl,hg⟩⟩
     obtain⟨w,hw1,hw2⟩:=hw
     have lk:=(look_loc hE h hw2 x).1
     have hw3:cs[n]'(by omega)=w:=(List.getElem?_eq_some_iff.1 hw1).2
     have htk:List.take 1 (List.drop n cs)=[w]:=by
      rw[List.drop_eq_getElem_cons (by omega),List.take_succ_cons,hw3];simp
     unfold inV at lk ⊢
     have hww:isTuple w=false∧w.cells.toList=[w]:=by rcases hw2 with⟨rfl,_⟩ | ⟨id,rfl,_⟩<;>exact⟨rfl,rfl⟩
     simp[Tryz.f9,g0,h0,h1,h1',hrow,hcl,hle,hw1,hw3,htk,hww,lk]
   · have h1':(T.locals.length:Int)≤n:=by omega
     rw[List.getElem?_eq_none (by omega)]
     simp[Tryz.f9,g0,h0,h1,h1',findP,inV]
theorem params_run (i:Int):∃ H',(run Tryz.prog E).call 86 [.pointer (some ⟨tid,0,none⟩),.int .i64 i] H=some (.val (.int .i64 (paramAt T i)),H')∧Same (fun _=>False) H H':=by
 suffices key:Gives ((run Tryz.prog E).call 86 [.pointer (some ⟨tid,0,none⟩),.int .i64 i] H) fun o H'=>o = .val (.int .i64 (paramAt T i))∧H'=H by
  obtain⟨o,H',e,rfl,rfl⟩:=key
  exact⟨_,e,Same.refl _ _⟩
 have g0:=h.obj
 obtain⟨b1,rfl⟩:=repInt.G_slice h.g2
 rw[c_sParams hE,callB,bodyOf]
 unfold paramAt
 by_cases h0:i<0
 · simp[Tryz.f86,g0,h0]
 · obtain⟨n,rfl⟩:∃ n:Nat,i=n:=⟨i.toNat,by omega⟩
   rw[if_neg h0,show ((n:Int).toNat)=n from rfl]
   by_cases h1:n<T.params.length
   · have h1':¬(T.params.length:Int)≤n:=by omega
     obtain⟨id,tl,cs,e1,_,_,hrow,hcl,hget,hle⟩:=repInt.G_at h.g2 h1
     cases e1
     rw[List.getElem?_eq_getElem h1,Option.getD_some]
     generalize T.params[n]=l at *
     simp only[repInt,Nat.mul_one]at hget hcl hle hrow
     have hw1:cs[n]? = some (.int .i64 l):=by have:=congrArg (fun q=>q[0]?) hget;simpa using this
     have hw3:cs[n]'(by omega) = .int .i64 l:=(List.getElem?_eq_some_iff.1 hw1).2
     simp[Tryz.f86,g0,h0,h1,h1',hrow,hcl,hle,hw1,hw3,hget]
   · have h1':(T.params.length:Int)≤n:=by omega
     rw[List.getElem?_eq_none (by omega)]
     simp[Tryz.f86,g0,h0,h1,h1']
end
end Go.Vm.Scope
namespace Go.Vm
variable {α:Type}
def Rep.Pure (ρ:Rep α):Prop:=∀ (H H':Heap) (S S':Nat→Prop) a cs,ρ.R H S a cs→ρ.R H' S' a cs
theorem Rep.Pure.L {ρ:Rep α}(hp:ρ.Pure){H H':Heap}{S S':Nat→Prop}:∀ {l:List α}{cs:List Value},ρ.L H S l cs→ρ.L H' S' l cs
 | [],cs,h=>h
 | a :: l, cs, h => by
  obtain⟨c1,c2,e,h1,h2⟩:=h
  exact⟨c1,c2,e,hp _ _ _ _ _ _ h1,Rep.Pure.L hp h2⟩
end Go.Vm
namespace Go.Vm.Scope
open Go Go.Proofs Go.Vm.Parse
attribute [local simp] repCells_succ writeAt rd_Fr toList_beq gpe gpn spe gse gsn ne_r0 ne_l0 le_s0 ne_r1 ne_l1 lt_s1 le_s1 ne_r2 ne_l2 lt_s2 le_s2 ne_r3 ne_l3 lt_s3 le_s3 ne_r4 ne_l4 lt_s4 le_s4 ne_r5 ne_l5 lt_s5 le_s5 ne_r6 ne_l6 lt_s6 le_s6 ne_r7 ne_l7 lt_s7 le_s7
section
variable {E:Hooks} (hE:Plain E)
include hE
variable {H:Heap} {col:Nat→Nat} {tid nid pid rid:Nat} {v1 v2 v3 v4 v5:Value} {T:Tab} (h:RTab H col tid nid pid rid v1 v2 v3 v4 v5 T) (hok:TOK T)
include h hok
end
def idxF (x:ByteArray):Nat→List ByteArray→Option Nat
 | _,[]=>none
 | k,y :: l=>if y=x then some k else idxF x (k+1) l
def celF:Int→List Nm→List Cel
 | _,[]=>[]
 | a,m :: l=>if clsP m.kind=3 then ⟨a,m.size⟩ :: celF (a+max m.size 1) l else celF a l
def ofF (k:Int):List (Nm × Int)→List Int
 | []=>[]
 | (m,v) :: l=>if m.kind=k then v :: ofF k l else ofF k l
structure ROK (R:RT):Prop where
 n1:R.means.length=R.names.length
 n2:R.values.length=R.names.length
 n3:R.heads.length=R.procs.length
 n4:R.locals.length=R.procs.length
 l1:R.names.length≤100000
 l2:R.procs.length≤100000
 l3:∀ l∈R.locals,l.length≤100000
 sz:∀ m∈R.means,0≤m.size∧m.size≤64
section
variable {E:Hooks} (hE:Plain E)
include hE
variable {H:Heap} {col:Nat→Nat} {tid:Nat} {v1 v2 v3 v4 v5 v6:Value} {R:RT} (h:RRef H col tid v1 v2 v3 v4 v5 v6 R) (hok:ROK R)
include h hok
def rIdx (o:Option Nat)(d:Int):Value := .int .i64 (match o with | some n=>(n:Int)+d | none=>0)
end
def rlocalsAt (R:RT)(i:Int):List ByteArray:=if i<1 then []else (R.locals[(i - 1).toNat]?).getD []
def rheadAt (R:RT)(i:Int):Int:=if i<1 then 0 else (R.heads[(i - 1).toNat]?).getD 0
section
variable {E:Hooks} (hE:Plain E)
include hE
variable {H:Heap} {col:Nat→Nat} {tid:Nat} {v1 v2 v3 v4 v5 v6:Value} {R:RT} (h:RRef H col tid v1 v2 v3 v4 v5 v6 R) (hok:ROK R)
include h hok
end
end Go.Vm.Scope
namespace Go.Vm.Scope
open Go Go.Proofs Go.Vm.Parse
def endF:Int→List Nm→Int
 | a,[]=>a
 | a,m :: l=>if clsP m.kind=3 then endF (a+max m.size 1) l else endF a l
def regL:Nat→List (ByteArray × Nm)→List (ByteArray × Int)
 | _,[]=>[]
 | n,(y,m) :: l=>if m.kind=3 then (y,(n:Int)) :: regL (n+1) l else regL n l
def numF:Nat→List ByteArray→List (ByteArray × Int)
 | _,[]=>[]
 | k,x :: l=>(x,(k:Int)) :: numF (k+1) l
theorem ofF_snoc (k:Int)(m:Nm)(v:Int):∀ l:List (Nm × Int),ofF k (l++[(m,v)])=ofF k l++(if m.kind=k then [v]else [])
 | []=>by simp[ofF]
 | (a, b) :: l => by
  simp only[List.cons_append,ofF,ofF_snoc k m v l]
  split<;>simp
theorem celF_snoc (m:Nm):∀ (a:Int)(l:List Nm),celF a (l++[m])=celF a l++(if clsP m.kind=3 then [⟨endF a l,m.size⟩]else [])
 | a,[]=>by simp[celF,endF]
 | a, b :: l => by
  simp only[List.cons_append,celF,endF]
  split
  · rw[celF_snoc m _ l];simp
  · rw[celF_snoc m _ l]
theorem endF_snoc (m:Nm):∀ (a:Int)(l:List Nm),endF a (l++[m])=if clsP m.kind=3 then endF a l+max m.size 1 else endF a l
 | a,[]=>by simp[endF]
 | a, b :: l => by
  simp only[List.cons_append,endF]
  split
  · rw[endF_snoc m _ l]
  · rw[endF_snoc m _ l]
theorem regL_snoc (y:ByteArray)(m:Nm):∀ (n:Nat)(l:List (ByteArray × Nm)),regL n (l++[(y,m)])=regL n l++(if m.kind=3 then [(y,((n+(regL n l).length:Nat):Int))]else [])
 | n,[]=>by simp[regL]
 | n, (a, b) :: l => by
  simp only[List.cons_append,regL]
  split
  · rw[regL_snoc y m (n+1) l]
    simp only[List.cons_append,List.length_cons]
    rw[show n+1+(regL (n+1) l).length=n+((regL (n+1) l).length+1) by omega]
  · rw[regL_snoc y m n l]
theorem numF_snoc (x:ByteArray):∀ (k:Nat)(l:List ByteArray),numF k (l++[x])=numF k l++[(x,((k+l.length:Nat):Int))]
 | k,[]=>by simp[numF]
 | k, a :: l => by
  simp only[List.cons_append,numF,numF_snoc x (k+1) l,List.length_cons]
  rw[show k+1+l.length=k+(l.length+1) by omega]
theorem numF_len:∀ (k:Nat)(l:List ByteArray),(numF k l).length=l.length
 | _,[]=>rfl
 | k,a :: l=>by simp only[numF,List.length_cons,numF_len (k+1) l]
theorem some_map (o:Option Nat)(f:Nat→Int):(o.map f).isSome=o.isSome:=by cases o<;>rfl
theorem find_num (x:ByteArray):∀ (k:Nat)(l:List ByteArray),findP x (numF k l)=Option.map (fun n:Nat=>(n:Int)) (idxF x k l)
 | _,[]=>rfl
 | k, a :: l => by
  simp only[numF,findP,idxF]
  split
  · rfl
  · exact find_num x (k+1) l
theorem find_zip (x:ByteArray):∀ (l:List ByteArray)(ms:List Nm),ms.length=l.length→(findP x (l.zip ms)).isSome=hasP l x
 | [],_,_=>rfl
 | a :: l,[],h=>by cases h
 | a :: l, m :: ms, h => by
  have ih:=find_zip x l ms (by simpa using h)
  simp only[List.zip_cons_cons,findP]
  unfold hasP at ih ⊢
  simp only[List.any_cons]
  by_cases ha:a=x
  · simp[ha]
  · simp[ha,ih]
theorem idx_has (x:ByteArray):∀ (k:Nat)(l:List ByteArray),(idxF x k l).isSome=hasP l x
 | _,[]=>rfl
 | k, a :: l => by
  have ih:=idx_has x (k+1) l
  simp only[idxF]
  unfold hasP at ih ⊢
  simp only[List.any_cons]
  by_cases ha:a=x
  · simp[ha]
  · simp[ha,ih]
structure Agree (T:Tab)(R:RT):Prop where
 n1:R.means.length=R.names.length
 n2:R.values.length=R.names.length
 n3:R.heads.length=R.procs.length
 n4:R.locals.length=R.procs.length
 a1:T.names=R.names.zip R.means
 a2:T.totals=ofF 1 (R.means.zip R.values)
 a3:T.semas=ofF 2 (R.means.zip R.values)
 a4:T.cells=celF 0 R.means
 a5:T.words=endF 0 R.means
 a6:T.regions=regL 0 (R.names.zip R.means)
 c1:T.totals.length=cntP 1 R.means
 c2:T.semas.length=cntP 2 R.means
 c3:T.cells.length=cntP 3 R.means
 a7:T.procs=numF 1 R.procs
 a8:T.locals=[] :: R.locals.map (numF 0)
 a9:T.params=0 :: R.heads
 sz:∀ m∈R.means,0≤m.size∧m.size≤64
 l3:∀ l∈R.locals,l.length≤8
theorem agree0:Agree tab0 rt0 :=
 ⟨rfl,rfl,rfl,rfl,rfl,rfl,rfl,rfl,rfl,rfl,rfl,rfl,rfl,rfl,rfl,rfl,by intro m h;exact absurd h (List.not_mem_nil),by intro l h;exact absurd h (List.not_mem_nil)⟩
theorem cntP_3 (k:Int)(h:clsP k=3)(l:List Nm):cntP k l=cntP 3 l:=by
 have e:clsP 3=3:=rfl
 induction l with
 | nil=>rfl
 | cons a l ih=>simp only[cntP,h,e,ih]
theorem Agree.decl {T:Tab}{R:RT}(h:Agree T R){d:Dcl}(hk:1≤d.kind∧d.kind≤4)(hn:3≤d.kind→0≤d.n∧d.n≤64) :
  match intoP T d,(if manyP R d then Except.error (16,d.at_)else if unitsB d then Except.error (24,d.at_)else Except.ok (rdclT R d):Except (Int × Int) RT)with
  | .error c,.error e=>e=(c,d.at_)
  | .ok T',.ok R'=>Agree T' R'∧R'.procs=R.procs∧T'.procs=T.procs
  | _,_=>False:=by
 have zip1:(R.names++[d.name]).zip (R.means++[⟨d.kind,cntP d.kind R.means,if clsP d.kind=3 then d.n else 0⟩])=R.names.zip R.means++[(d.name,⟨d.kind,cntP d.kind R.means,if clsP d.kind=3 then d.n else 0⟩)]:=by
  rw[List.zip_append h.n1.symm];rfl
 have zip2:(R.means++[(⟨d.kind,cntP d.kind R.means,if clsP d.kind=3 then d.n else 0⟩:Nm)]).zip (R.values++[d.n])=R.means.zip R.values++[(⟨d.kind,cntP d.kind R.means,if clsP d.kind=3 then d.n else 0⟩,d.n)]:=by
  rw[List.zip_append (h.n1.trans h.n2.symm)];rfl
 have mk:∀ T':Tab,T'.names=T.names++[(d.name,⟨d.kind,cntP d.kind R.means,if clsP d.kind=3 then d.n else 0⟩)]→T'.totals=T.totals++(if d.kind=1 then [d.n]else [])→T'.semas=T.semas++(if d.kind=2 then [d.n]else []) →
   T'.cells=T.cells++(if clsP d.kind=3 then [⟨T.words,if clsP d.kind=3 then d.n else 0⟩]else [])→T'.words=(if clsP d.kind=3 then T.words+max (if clsP d.kind=3 then d.n else 0) 1 else T.words)→T'.regions=T.regions++(if d.kind=3 then [(d.name,(T.regions.length:Int))]else []) →
   T'.procs=T.procs→T'.locals=T.locals→T'.params=T.params→Agree T' (rdclT R d)∧(rdclT R d).procs=R.procs∧T'.procs=T.procs:=by
  intro T' e1 e2 e3 e4 e5 e6 e7 e8 e9
  have k1:clsP d.kind=clsP 1↔d.kind=1:=by unfold clsP;split<;>omega
  have k2:clsP d.kind=clsP 2↔d.kind=2:=by unfold clsP;split<;>omega
  have k3:clsP d.kind=clsP 3↔clsP d.kind=3:=Iff.rfl
  refine⟨⟨by simp[rdclT,h.n1],by simp[rdclT,h.n2],h.n3,h.n4,?_,?_,?_,?_,?_,?_,?_,?_,?_,?_,?_,?_,?_,h.l3⟩,rfl,e7⟩
  · simp only[rdclT];rw[e1,h.a1,zip1]
  · simp only[rdclT];rw[e2,h.a2,zip2,ofF_snoc]
  · simp only[rdclT];rw[e3,h.a3,zip2,ofF_snoc]
  · simp only[rdclT];rw[e4,h.a4,celF_snoc,h.a5]
  · simp only[rdclT];rw[e5,endF_snoc,h.a5]
  · simp only[rdclT];rw[e6,h.a6,zip1,regL_snoc,Nat.zero_add]
  · simp only[rdclT];rw[e2,cntP_snoc,List.length_append,h.c1]
    simp only[eq_comm (a:=clsP d.kind)]at *
    by_cases q:d.kind=1
    · rw[if_pos q,if_pos (by rw[q])];rfl
    · rw[if_neg q,if_neg (fun e=>q (k1.1 e))];rfl
  · simp only[rdclT];rw[e3,cntP_snoc,List.length_append,h.c2]
    by_cases q:d.kind=2
    · rw[if_pos q,if_pos (by rw[q])];rfl
    · rw[if_neg q,if_neg (fun e=>q (k2.1 e))];rfl
  · simp only[rdclT];rw[e4,cntP_snoc,List.length_append,h.c3]
    by_cases q:clsP d.kind=3
    · rw[if_pos q,if_pos (k3.2 q)];rfl
    · rw[if_neg q,if_neg (fun e=>q (k3.1 e))];rfl
  · rw[e7];exact h.a7
  · rw[e8];exact h.a8
  · rw[e9];exact h.a9
  · intro m hm
    rcases List.mem_append.1 hm with hm | hm
    · exact h.sz m hm
    · rw[List.mem_singleton.1 hm]
      dsimp only
      split
      · rename_i hc
        exact hn (by unfold clsP at hc;split at hc<;>omega)
      · omega
 unfold intoP
 have k1:d.kind=1→clsP d.kind=1:=fun e=>by rw[e];rfl
 have k2:d.kind=2→clsP d.kind=2:=fun e=>by rw[e];rfl
 by_cases h1:d.kind=1
 · have hc:=k1 h1
   have hq:T.totals.length=cntP d.kind R.means:=by rw[h1];exact h.c1
   rw[if_pos h1]
   by_cases q1:6≤T.totals.length
   · rw[if_pos q1,if_pos (show manyP R d from .inl ⟨h1,by omega⟩)]
   · rw[if_neg q1,if_neg (show ¬manyP R d from fun e=>by unfold manyP at e;omega)]
     by_cases q2:d.n<1∨1000<d.n
     · rw[if_pos q2,if_pos (show unitsB d from .inl ⟨h1,q2⟩)]
     · rw[if_neg q2,if_neg (show ¬unitsB d from fun e=>by unfold unitsB at e;omega)]
       refine mk _ ?_ ?_ ?_ ?_ ?_ ?_ rfl rfl rfl
       · rw[if_neg (by omega),← hq]
       · rw[if_pos h1]
       · rw[if_neg (by omega),List.append_nil]
       · rw[if_neg (by omega),List.append_nil]
       · rw[if_neg (by omega)]
       · rw[if_neg (by omega),List.append_nil]
 rw[if_neg h1]
 by_cases h2:d.kind=2
 · have hc:=k2 h2
   have hq:T.semas.length=cntP d.kind R.means:=by rw[h2];exact h.c2
   rw[if_pos h2]
   by_cases q1:8≤T.semas.length
   · rw[if_pos q1,if_pos (show manyP R d from .inr (.inl ⟨h2,by omega⟩))]
   · rw[if_neg q1,if_neg (show ¬manyP R d from fun e=>by unfold manyP at e;omega)]
     by_cases q2:d.n<0∨1000<d.n
     · rw[if_pos q2,if_pos (show unitsB d from .inr ⟨h2,q2⟩)]
     · rw[if_neg q2,if_neg (show ¬unitsB d from fun e=>by unfold unitsB at e;omega)]
       refine mk _ ?_ ?_ ?_ ?_ ?_ ?_ rfl rfl rfl
       · rw[if_neg (by omega),← hq]
       · rw[if_neg (by omega),List.append_nil]
       · rw[if_pos h2]
       · rw[if_neg (by omega),List.append_nil]
       · rw[if_neg (by omega)]
       · rw[if_neg (by omega),List.append_nil]
 rw[if_neg h2]
 have hc:clsP d.kind=3:=by unfold clsP;split<;>omega
 have hq:T.cells.length=cntP d.kind R.means:=by rw[cntP_3 _ hc];exact h.c3
 by_cases q1:16≤T.cells.length
 · rw[if_pos q1,if_pos (show manyP R d from .inr (.inr ⟨hc,by omega⟩))]
 · rw[if_neg q1,if_neg (show ¬manyP R d from fun e=>by unfold manyP at e;omega),if_neg (show ¬unitsB d from fun e=>by unfold unitsB at e;omega)]
   by_cases h3:d.kind=3
   · rw[if_pos h3]
     refine mk _ ?_ ?_ ?_ ?_ ?_ ?_ rfl rfl rfl
     · simp only[intoV];rw[if_pos hc,← hq]
     · simp only[intoV];rw[if_neg h1,List.append_nil]
     · simp only[intoV];rw[if_neg h2,List.append_nil]
     · simp only[intoV];rw[if_pos hc,if_pos hc]
     · simp only[intoV];rw[if_pos hc,if_pos hc]
     · simp only[intoV];rw[if_pos h3]
   · rw[if_neg h3]
     refine mk _ ?_ ?_ ?_ ?_ ?_ ?_ rfl rfl rfl
     · simp only[intoV];rw[if_pos hc,← hq]
     · simp only[intoV];rw[if_neg h1,List.append_nil]
     · simp only[intoV];rw[if_neg h2,List.append_nil]
     · simp only[intoV];rw[if_pos hc,if_pos hc]
     · simp only[intoV];rw[if_pos hc,if_pos hc]
     · simp only[intoV];rw[if_neg h3,List.append_nil]
def Both (x:Except (Int × Int) Tab)(y:Except (Int × Int) RT):Prop:=match x,y with
 | .error e,.error e'=>e=e'
 | .ok T,.ok R=>Agree T R
 | _,_=>False
theorem known_has {T:Tab}{R:RT}(h:Agree T R)(x:ByteArray):knownP T x=(hasP R.names x || hasP R.procs x):=by
 unfold knownP
 rw[h.a1,find_zip x _ _ h.n1,h.a7,find_num,some_map,idx_has]
theorem both_decls:∀ (l:List Dcl){T:Tab}{R:RT},Agree T R→R.procs=[]→(∀ d∈l,DclOK d)→Both (declsB T l) (rdeclsB R l)∧(∀ R',rdeclsB R l = .ok R'→R'.procs=[])
 | [],T,R,h,hp,_=>⟨h,fun R' e=>by simp only[rdeclsB,Except.ok.injEq]at e;rw[← e];exact hp⟩
 | d :: l, T, R, h, hp, hd => by
  have ok:=hd d (by simp)
  have k:=known_has h d.name
  rw[hp]at k
  have k':knownP T d.name=hasP R.names d.name:=by rw[k];simp[hasP]
  rw[declsB,rdeclsB]
  unfold rdclB
  rw[k']
  by_cases c:hasP R.names d.name=true
  · rw[if_pos c,if_pos c]
    exact⟨rfl,fun R' e=>by cases e⟩
  · rw[if_neg c,if_neg c]
    have st:=h.decl (d:=d) ⟨ok.k1,ok.k4⟩ (fun hh=>⟨ok.n0,ok.n2 hh⟩)
    generalize intoP T d=x at st ⊢
    generalize (if manyP R d then .error (16,d.at_)else if unitsB d then .error (24,d.at_)else .ok (rdclT R d):Except (Int × Int) RT)=y at st ⊢
    cases x with
    | error c =>
     cases y with
     | error e=>simp only at st;subst st;exact⟨rfl,fun R' e=>by cases e⟩
     | ok R'=>exact st.elim
    | ok T' =>
     cases y with
     | error e=>exact st.elim
     | ok R'=>exact both_decls l st.1 (st.2.1.trans hp) (fun d hd'=>hd d (by simp[hd']))
theorem both_locals (np:Nat):∀ (l:List Idn)(i:Nat)(a:List ByteArray),a.length=i→i≤8→match localsP np (numF 0 a) i l,rlocB np a i l with
  | .error e,.error e'=>e=e'
  | .ok x,.ok y=>x=numF 0 y∧y.length≤8
  | _,_=>False
 | [],i,a,ha,h8=>by simp only[localsP,rlocB];exact⟨trivial,by omega⟩
 | x :: l, i, a, ha, h8 => by
  rw[localsP,rlocB,find_num,some_map,idx_has]
  by_cases c:hasP a x.name=true
  · rw[if_pos c,if_pos c]
  · rw[if_neg c,if_neg c]
    by_cases q:(i<np∧4≤i)∨8≤i
    · rw[if_pos q,if_pos q]
    · rw[if_neg q,if_neg q]
      have e:numF 0 a++[(x.name,(i:Int))]=numF 0 (a++[x.name]):=by rw[numF_snoc,Nat.zero_add,ha]
      rw[e]
      exact both_locals np l (i+1) (a++[x.name]) (by simp[ha]) (by omega)
theorem both_procs:∀ (l:List Prc){T:Tab}{R:RT},Agree T R→Both (procsB procB T l) (rprocsB R l)
 | [],T,R,h=>h
 | p :: l, T, R, h => by
  rw[procsB,rprocsB]
  unfold procB rprcB
  have k:=known_has h p.name
  have kp:T.procs.length=R.procs.length:=by rw[h.a7,numF_len]
  by_cases c:hasP R.names p.name=true∨hasP R.procs p.name=true
  · have c':knownP T p.name=true:=by rw[k];simpa using c
    rw[if_pos c',if_pos c]
    exact rfl
  · have c':¬knownP T p.name=true:=by rw[k];simpa using c
    rw[if_neg c',if_neg c,kp]
    by_cases q:12≤R.procs.length
    · rw[if_pos q,if_pos q];exact rfl
    · rw[if_neg q,if_neg q]
      have bl:=both_locals p.params.length (p.params++p.vars) 0 [] rfl (Nat.zero_le _)
      simp only[numF]at bl
      generalize localsP p.params.length [] 0 (p.params++p.vars)=x at bl ⊢
      generalize rlocB p.params.length [] 0 (p.params++p.vars)=y at bl ⊢
      cases x with
      | error e =>
       cases y with
       | error e'=>simp only at bl;subst bl;exact rfl
       | ok y=>exact bl.elim
      | ok x =>
       cases y with
       | error e=>exact bl.elim
       | ok y =>
        obtain⟨rfl,y8⟩:=bl
        refine both_procs l (T:=procT T p (numF 0 y)) (R:=rprcT R p y) ⟨h.n1,h.n2,by simp[rprcT,h.n3],by simp[rprcT,h.n4],h.a1,h.a2,h.a3,h.a4,h.a5,h.a6,h.c1,h.c2,h.c3,?_,?_,?_,h.sz,?_⟩
        · simp only[procT,rprcT]
          rw[h.a7,numF_snoc,h.a8]
          simp only[List.length_cons,List.length_map]
          rw[h.n4,show R.procs.length+1=1+R.procs.length by omega]
        · simp only[procT,rprcT]
          rw[h.a8]
          simp
        · simp only[procT,rprcT]
          rw[h.a9]
          simp
        · intro l hl
          rcases List.mem_append.1 hl with hl | hl
          · exact h.l3 l hl
          · rw[List.mem_singleton.1 hl];exact y8
theorem both_build (s:Src)(hd:∀ d∈s.decls,DclOK d):Both (buildP procB s) (rbuildB s):=by
 unfold buildP rbuildB
 have b:=(both_decls s.decls agree0 rfl hd).1
 generalize declsB tab0 s.decls=x at b ⊢
 generalize rdeclsB rt0 s.decls=y at b ⊢
 cases x with
 | error e =>
  cases y with
  | error e'=>exact b
  | ok R=>exact b.elim
 | ok T =>
  cases y with
  | error e=>exact b.elim
  | ok R=>exact both_procs s.procs b
end Go.Vm.Scope
namespace Go.Vm.Typing
open Go Go.Proofs Go.Vm.Parse Go.Vm.Scope
abbrev Flt:=Int × Int
def isLoc (R:RT)(p:Int)(x:ByteArray):Bool:=(idxF x 0 (rlocalsAt R p)).isSome
def isPrc (R:RT)(x:ByteArray):Bool:=(idxF x 0 R.procs).isSome
def glob (R:RT)(x:ByteArray):Option Nm:=findP x (R.names.zip R.means)
structure At where
 p:Int
 ins:List ByteArray
 cond:ByteArray
def varB (R:RT)(c:At)(x:ByteArray)(at_:Int)(arr:Bool):Option Flt :=
 if isLoc R c.p x=true then (if arr=true then some (19,at_)else none)
 else match glob R x with
 | none=>if isPrc R x=true then some (19,at_)else some (18,at_)
 | some m =>
  if clsP m.kind≠3∨decide (0<m.size)≠arr then some (19,at_)
  else if m.kind=3∧hasP c.ins x=false then some (22,at_)
  else if c.cond≠ByteArray.empty∧c.cond≠x then some (23,at_)else none
def mustB (R:RT)(p:Int)(x:ByteArray)(at_ kind:Int):Option Flt :=
 if isLoc R p x=true then some (19,at_)
 else match glob R x with
 | some m=>if m.kind=kind then none else some (19,at_)
 | none=>if isPrc R x=true then (if kind = -2 then none else some (19,at_))else some (18,at_)
def prcOf (R:RT)(x:ByteArray):Int:=match idxF x 0 R.procs with
 | some n=>(n:Int)+1
 | none=>0
def tyP:Ex→Int
 | .mk kind _ _ op _ _=>if kind=2 then 2 else if (kind=5∨kind=6)∧15≤op∧op≤23 then 2 else 1
def exAt:Ex→Int
 | .mk _ at_ _ _ _ _=>at_
def opTy (op:Int):Int:=if op=23∨op=21∨op=22 then 2 else 1
def typB (k:Int)(x:Ex):Option Flt:=if tyP x=k then none else some (21,exAt x)
mutual
def exB (R:RT)(c:At):Ex→Option Flt
 | .mk kind at_ _ op x sub =>
  if kind=3 then varB R c x at_ false
  else if kind=4 then (varB R c x at_ true).or (wantB R c 1 sub)
  else if kind=5∨kind=6 then wantB R c (opTy op) sub
  else none
def wantB (R:RT)(c:At)(k:Int):List Ex→Option Flt
 | []=>none
 | x :: l=>((exB R c x).or (typB k x)).or (wantB R c k l)
end
def callT (R:RT)(c:At)(x:ByteArray)(at_:Int)(args:List Ex):Option Flt :=
 (mustB R c.p x at_ (-2)).or ((if (args.length:Int)=rheadAt R (prcOf R x)then none else some (20,at_)).or (wantB R c 1 args))
def itemB (R:RT)(p:Int)(seen:List Itm)(x:Itm):Option Flt :=
 (if 6≤seen.length then some (16,x.at_)else none).or ((mustB R p x.name x.at_ 1).or ((if (seen.any fun y=>decide (y.name=x.name))=true then some (17,x.at_)else none).or (if x.n<1∨1000<x.n then some (24,x.at_)else none)))
def itemsB (R:RT)(p:Int):List Itm→List Itm→Option Flt
 | _,[]=>none
 | seen,x :: l=>(itemB R p seen x).or (itemsB R p (seen++[x]) l)
def braB (R:RT)(c:At)(i:Nat)(b:Bra):Option Flt :=
 (if 8≤i then some (16,b.at_)else none).or ((callT R c b.name b.at_ b.args).or (itemsB R c.p [] b.claims))
def brasB (R:RT)(c:At):Nat→List Bra→Option Flt
 | _,[]=>none
 | i,b :: l=>(braB R c i b).or (brasB R c (i+1) l)
mutual
def stB (R:RT)(p:Int)(ins:List ByteArray):Stm→Option Flt
 | .mk kind at_ x e body els br items =>
  if kind=2∨kind=13 then (varB R ⟨p,ins,ByteArray.empty⟩ x at_ false).or (wantB R ⟨p,ins,ByteArray.empty⟩ 1 e)
  else if kind=3∨kind=14 then (varB R ⟨p,ins,ByteArray.empty⟩ x at_ true).or (wantB R ⟨p,ins,ByteArray.empty⟩ 1 e)
  else if kind=15 then wantB R ⟨p,ins,ByteArray.empty⟩ 1 e
  else if kind=4∨kind=5 then (wantB R ⟨p,ins,ByteArray.empty⟩ 2 e).or ((stsB R p ins body).or (stsB R p ins els))
  else if kind=6 then callT R ⟨p,ins,ByteArray.empty⟩ x at_ e
  else if kind=7 then brasB R ⟨p,ins,ByteArray.empty⟩ 0 br
  else if kind=8∨kind=9 then mustB R p x at_ 2
  else if kind=10 then (mustB R p x at_ 3).or ((if hasP ins x=true then some (22,at_)else none).or ((wantB R ⟨p,ins++[x],x⟩ 2 e).or (stsB R p (ins++[x]) body)))
  else if kind=11∨kind=12 then itemsB R p [] items
  else none
def stsB (R:RT)(p:Int)(ins:List ByteArray):List Stm→Option Flt
 | []=>none
 | s :: l=>(stB R p ins s).or (stsB R p ins l)
end
def prcsB (R:RT):Nat→List Prc→Option Flt
 | _,[]=>none
 | i,q :: l=>(stsB R ((i:Int)+1) [] q.body).or (prcsB R (i+1) l)
def checkB (R:RT)(s:Src):Option Flt:=(prcsB R 0 s.procs).or ((itemsB R 0 [] s.claims).or (stsB R 0 [] s.body))
structure FOK (f:Option Flt):Prop where
 ne:∀ q,f=some q→q.1≠0
theorem FOK.none:FOK none:=⟨fun _ h=>by cases h⟩
theorem FOK.some {c a:Int}(h:c≠0):FOK (some (c,a)):=⟨fun q e=>by cases e;exact h⟩
theorem FOK.or {f g:Option Flt}(h:FOK f)(k:FOK g):FOK (f.or g):=by
 cases f with
 | none=>simpa using k
 | some q=>simpa using h
theorem FOK.ite {p:Prop} [Decidable p] {f g:Option Flt}(h:FOK f)(k:FOK g):FOK (if p then f else g):=by
 split
 · exact h
 · exact k
theorem varB_ok (R:RT)(c:At)(x:ByteArray)(a:Int)(arr:Bool):FOK (varB R c x a arr):=by
 unfold varB
 refine .ite (.ite (.some (by decide)) .none) ?_
 split
 · exact .ite (.some (by decide)) (.some (by decide))
 · exact .ite (.some (by decide)) (.ite (.some (by decide)) (.ite (.some (by decide)) .none))
theorem mustB_ok (R:RT)(p:Int)(x:ByteArray)(a k:Int):FOK (mustB R p x a k):=by
 unfold mustB
 refine .ite (.some (by decide)) ?_
 split
 · exact .ite .none (.some (by decide))
 · exact .ite (.ite .none (.some (by decide))) (.some (by decide))
theorem typB_ok (k:Int)(x:Ex):FOK (typB k x) := .ite .none (.some (by decide))
mutual
theorem exB_ok (R:RT)(c:At):∀ x:Ex,FOK (exB R c x)
 | .mk kind at_ _ op x sub => by
  simp only[exB]
  exact .ite (varB_ok ..) (.ite ((varB_ok ..).or (wantB_ok R c 1 sub)) (.ite (wantB_ok R c _ sub) .none))
theorem wantB_ok (R:RT)(c:At)(k:Int):∀ l:List Ex,FOK (wantB R c k l)
 | []=>by simp only[wantB];exact .none
 | x :: l=>by simp only[wantB];exact ((exB_ok R c x).or (typB_ok k x)).or (wantB_ok R c k l)
end
theorem callT_ok (R:RT)(c:At)(x:ByteArray)(a:Int)(l:List Ex):FOK (callT R c x a l) :=
 (mustB_ok ..).or (FOK.or (.ite .none (.some (by decide))) (wantB_ok ..))
theorem itemB_ok (R:RT)(p:Int)(seen:List Itm)(x:Itm):FOK (itemB R p seen x) :=
 FOK.or (.ite (.some (by decide)) .none) ((mustB_ok ..).or (FOK.or (.ite (.some (by decide)) .none) (.ite (.some (by decide)) .none)))
theorem itemsB_ok (R:RT)(p:Int):∀ (l seen:List Itm),FOK (itemsB R p seen l)
 | [],_ => .none
 | x :: l,seen=>(itemB_ok ..).or (itemsB_ok R p l _)
theorem braB_ok (R:RT)(c:At)(i:Nat)(b:Bra):FOK (braB R c i b):=FOK.or (.ite (.some (by decide)) .none) ((callT_ok ..).or (itemsB_ok ..))
theorem brasB_ok (R:RT)(c:At):∀ (l:List Bra)(i:Nat),FOK (brasB R c i l)
 | [],_ => .none
 | x :: l,i=>(braB_ok ..).or (brasB_ok R c l _)
mutual
theorem stB_ok (R:RT)(p:Int):∀ (ins:List ByteArray)(s:Stm),FOK (stB R p ins s)
 | ins, .mk kind at_ x e body els br items => by
  simp only[stB]
  exact .ite ((varB_ok ..).or (wantB_ok ..)) (.ite ((varB_ok ..).or (wantB_ok ..)) (.ite (wantB_ok ..) (.ite ((wantB_ok ..).or ((stsB_ok R p ins body).or (stsB_ok R p ins els))) (.ite (callT_ok ..) (.ite (brasB_ok ..) (.ite (mustB_ok ..) (.ite ((mustB_ok ..).or (FOK.or (.ite (.some (by decide)) .none) ((wantB_ok ..).or (stsB_ok R p (ins++[x]) body)))) (.ite (itemsB_ok ..) .none))))))))
theorem stsB_ok (R:RT)(p:Int):∀ (ins:List ByteArray)(l:List Stm),FOK (stsB R p ins l)
 | ins,[]=>by simp only[stsB];exact .none
 | ins,s :: l=>by simp only[stsB];exact (stB_ok R p ins s).or (stsB_ok R p ins l)
end
structure RGood (R:RT):Prop where
 apart:∀ x,(glob R x).isSome=true→isPrc R x=false
 kinds:∀ m∈R.means,1≤m.kind∧m.kind≤4
theorem findP_mem {β:Type}(x:ByteArray){b:β}:∀ {l:List (ByteArray × β)},findP x l=some b→(x,b)∈l
 | [],h=>by cases h
 | (y, c) :: l, h => by
  rw[findP]at h
  split at h
  · rename_i e
    simp only at e h
    cases h
    subst e
    exact List.mem_cons_self
  · exact List.mem_cons_of_mem _ (findP_mem x h)
theorem RGood.kind {R:RT}(h:RGood R){x:ByteArray}{m:Nm}(e:glob R x=some m):1≤m.kind∧m.kind≤4 :=
 h.kinds m (List.of_mem_zip (findP_mem x e)).2
mutual
def exNm (x:ByteArray):Ex→Bool
 | .mk kind _ _ _ nm sub=>decide ((kind=3∨kind=4)∧nm=x) || exsNm x sub
def exsNm (x:ByteArray):List Ex→Bool
 | []=>false
 | e :: l=>exNm x e || exsNm x l
end
mutual
def tchS (x:ByteArray)(inn:Bool):Stm→Bool
 | .mk kind _ nm e body els br _ =>
  (!inn && decide ((kind=2∨kind=3∨kind=13∨kind=14)∧nm=x)) ||
  ((exsNm x e && !(inn || decide (kind=10∧nm=x))) || (tchSs x (inn || decide (kind=10∧nm=x)) body || (tchSs x inn els || (br.any fun b=>exsNm x b.args && !inn))))
def tchSs (x:ByteArray)(inn:Bool):List Stm→Bool
 | []=>false
 | s :: l=>tchS x inn s || tchSs x inn l
end
structure Shd (R:RT)(p:Int)(x:ByteArray):Prop where
 loc:isLoc R p x=false
 glb:∃ m,glob R x=some m∧m.kind=3
theorem varB_shd {R:RT}{c:At}{x:ByteArray}(h:Shd R c.p x)(hi:hasP c.ins x=false)(a:Int)(arr:Bool):varB R c x a arr≠none:=by
 obtain⟨m,hg,hk⟩:=h.glb
 unfold varB
 rw[h.loc,if_neg (by simp),hg]
 simp only[hk,hi]
 split
 · simp
 · simp
theorem or_none {α:Type}{a b:Option α}(h:a.or b=none):a=none∧b=none:=by
 cases a with
 | none=>exact⟨rfl,by simpa using h⟩
 | some _=>simp at h
theorem len_nil {α:Type}{l:List α}(h:l.length=0):l=[]:=List.eq_nil_of_length_eq_zero h
mutual
theorem exB_shd {R:RT}{c:At}{x:ByteArray}(h:Shd R c.p x)(hi:hasP c.ins x=false):∀ e:Ex,exB R c e=none→WFx e→exNm x e=false
 | .mk kind at_ num op nm sub, hb, hw => by
  simp only[WFx]at hw
  obtain⟨hok,_,_,hsub⟩:=hw
  simp only[exB]at hb
  simp only[exNm,Bool.or_eq_false_iff,decide_eq_false_iff_not]
  by_cases k3:kind=3
  · rw[if_pos k3]at hb
    have hs:sub=[]:=len_nil (by unfold ExOK at hok;omega)
    subst hs
    refine⟨fun hx => ?_,by simp only[exsNm]⟩
    rw[hx.2]at hb
    exact varB_shd h hi _ _ hb
  rw[if_neg k3]at hb
  by_cases k4:kind=4
  · rw[if_pos k4]at hb
    obtain⟨h1,h2⟩:=or_none hb
    refine⟨fun hx => ?_,wantB_shd h hi 1 sub h2 hsub⟩
    rw[hx.2]at h1
    exact varB_shd h hi _ _ h1
  rw[if_neg k4]at hb
  refine⟨by rintro⟨h1 | h1,_⟩<;>contradiction,?_⟩
  by_cases k5:kind=5∨kind=6
  · rw[if_pos k5]at hb
    exact wantB_shd h hi _ sub hb hsub
  · have hs:sub=[]:=len_nil (by unfold ExOK at hok;omega)
    subst hs
    simp only[exsNm]
theorem wantB_shd {R:RT}{c:At}{x:ByteArray}(h:Shd R c.p x)(hi:hasP c.ins x=false):∀ (k:Int)(l:List Ex),wantB R c k l=none→WFxs l→exsNm x l=false
 | _,[],_,_=>by simp only[exsNm]
 | k, e :: l, hb, hw => by
  simp only[WFxs]at hw
  simp only[wantB]at hb
  obtain⟨h1,h2⟩:=or_none hb
  obtain⟨h3,_⟩:=or_none h1
  simp only[exsNm,Bool.or_eq_false_iff]
  exact⟨exB_shd h hi e h3 hw.1,wantB_shd h hi k l h2 hw.2⟩
end
theorem callT_shd {R:RT}{c:At}{x y:ByteArray}(h:Shd R c.p x)(hi:hasP c.ins x=false){a:Int}{args:List Ex}(hb:callT R c y a args=none)(hw:WFxs args):exsNm x args=false:=by
 obtain⟨_,h1⟩:=or_none hb
 obtain⟨_,h2⟩:=or_none h1
 exact wantB_shd h hi 1 args h2 hw
theorem brasB_shd {R:RT}{c:At}{x:ByteArray}(h:Shd R c.p x)(hi:hasP c.ins x=false):∀ (l:List Bra)(i:Nat),brasB R c i l=none→(∀ b∈l,WFxs b.args)→∀ b∈l,exsNm x b.args=false
 | [],_,_,_=>by intro b hb;cases hb
 | b :: l, i, hb, hw => by
  simp only[brasB]at hb
  obtain⟨h1,h2⟩:=or_none hb
  obtain⟨_,h3⟩:=or_none h1
  obtain⟨h4,_⟩:=or_none h3
  intro b' hb'
  rcases List.mem_cons.1 hb' with rfl | hb'
  · exact callT_shd h hi h4 (hw _ (by simp))
  · exact brasB_shd h hi l (i+1) h2 (fun q hq=>hw q (by simp[hq])) b' hb'
theorem hasP_snoc (ins:List ByteArray)(y x:ByteArray):hasP (ins++[y]) x=(hasP ins x || decide (y=x)):=by
 simp[hasP,List.any_append]
mutual
theorem stB_shd {R:RT}{p:Int}{x:ByteArray}(h:Shd R p x):∀ (ins:List ByteArray)(s:Stm),stB R p ins s=none→WFs s→tchS x (hasP ins x) s=false
 | ins, .mk kind at_ nm e body els br items, hb, hw => by
  simp only[WFs]at hw
  obtain⟨hok,hwe,hwb,hwl,hwr,_⟩:=hw
  obtain⟨he1,he2,he3,he4⟩:=hok.e
  have hlo:=hok.lo
  have hhi:=hok.hi
  have hbo:=hok.body
  have hel:=hok.els
  have hbr:=hok.br
  simp only[stB]at hb
  simp only[tchS]
  have ex:∀ {k:Int},wantB R ⟨p,ins,ByteArray.empty⟩ k e=none→hasP ins x=false→exsNm x e=false:=fun h1 h2=>wantB_shd (c:=⟨p,ins,ByteArray.empty⟩) h h2 _ e h1 hwe
  have vr:∀ {arr:Bool},varB R ⟨p,ins,ByteArray.empty⟩ nm at_ arr=none→hasP ins x=false→nm≠x:=fun h1 h2 hx=>varB_shd (c:=⟨p,ins,ByteArray.empty⟩) h h2 at_ _ (hx ▸ h1)
  have nob:kind≠4→kind≠5→kind≠10→body=[]:=fun a b c=>len_nil (hbo a b c)
  have nol:kind≠4→els=[]:=fun a=>len_nil (hel a)
  have nor:kind≠7→br=[]:=fun a=>len_nil (hbr a)
  have noe:(kind=1∨kind=7∨kind=8∨kind=9∨kind=11∨kind=12∨kind=13)→e=[]:=fun a=>len_nil (he1 a)
  by_cases k10:kind=10
  · rw[if_neg (by omega),if_neg (by omega),if_neg (by omega),if_neg (by omega),if_neg (by omega),if_neg (by omega),if_neg (by omega),if_pos k10]at hb
    obtain⟨_,h2⟩:=or_none hb
    obtain⟨_,h3⟩:=or_none h2
    obtain⟨h4,h5⟩:=or_none h3
    have ih:=stsB_shd h (ins++[nm]) body h5 hwb
    rw[hasP_snoc]at ih
    have hd:decide (kind=10∧nm=x)=decide (nm=x):=by simp[k10]
    rw[hd,ih,nol (by omega),nor (by omega)]
    have hdd:decide ((kind=2∨kind=3∨kind=13∨kind=14)∧nm=x)=false:=by rw[decide_eq_false_iff_not];rintro⟨h,_⟩;omega
    rw[hdd]
    simp only[tchSs,List.any_nil,Bool.and_false,Bool.false_or,Bool.or_false,Bool.and_eq_false_iff,Bool.not_eq_false']
    cases hi:(hasP ins x || decide (nm=x))with
    | true=>exact .inr rfl
    | false=>exact .inl (wantB_shd (c:=⟨p,ins++[nm],nm⟩) h (by show hasP (ins++[nm]) x=false;rw[hasP_snoc];exact hi) 2 e h4 hwe)
  have hd:decide (kind=10∧nm=x)=false:=by rw[decide_eq_false_iff_not];rintro⟨h,_⟩;exact k10 h
  rw[hd,Bool.or_false]
  by_cases k2:kind=2∨kind=13
  · rw[if_pos k2]at hb
    obtain⟨h1,h2⟩:=or_none hb
    rw[nob (by omega) (by omega) k10,nol (by omega),nor (by omega)]
    cases hi:hasP ins x with
    | true=>simp[tchSs]
    | false=>simp[tchSs,ex h2 hi,vr h1 hi]
  rw[if_neg k2]at hb
  by_cases k3:kind=3∨kind=14
  · rw[if_pos k3]at hb
    obtain⟨h1,h2⟩:=or_none hb
    rw[nob (by omega) (by omega) k10,nol (by omega),nor (by omega)]
    cases hi:hasP ins x with
    | true=>simp[tchSs]
    | false=>simp[tchSs,ex h2 hi,vr h1 hi]
  rw[if_neg k3]at hb
  have hd2:decide ((kind=2∨kind=3∨kind=13∨kind=14)∧nm=x)=false:=by rw[decide_eq_false_iff_not];rintro⟨h,_⟩;omega
  rw[hd2,Bool.and_false,Bool.false_or]
  by_cases k15:kind=15
  · rw[if_pos k15]at hb
    rw[nob (by omega) (by omega) k10,nol (by omega),nor (by omega)]
    cases hi:hasP ins x with
    | true=>simp[tchSs]
    | false=>simp[tchSs,ex hb hi]
  rw[if_neg k15]at hb
  by_cases k4:kind=4∨kind=5
  · rw[if_pos k4]at hb
    obtain⟨h1,h2⟩:=or_none hb
    obtain⟨h3,h4⟩:=or_none h2
    have i1:=stsB_shd h ins body h3 hwb
    have i2:=stsB_shd h ins els h4 hwl
    rw[nor (by omega),i1,i2]
    cases hi:hasP ins x with
    | true=>simp
    | false=>simp[ex h1 hi]
  rw[if_neg k4]at hb
  rw[nob (by omega) (by omega) k10,nol (by omega)]
  by_cases k6:kind=6
  · rw[if_pos k6]at hb
    rw[nor (by omega)]
    cases hi:hasP ins x with
    | true=>simp[tchSs]
    | false=>simp[tchSs,callT_shd (c:=⟨p,ins,ByteArray.empty⟩) h hi hb hwe]
  rw[if_neg k6]at hb
  by_cases k7:kind=7
  · rw[if_pos k7]at hb
    rw[noe (by omega)]
    cases hi:hasP ins x with
    | true=>simp[tchSs,exsNm]
    | false =>
     have:=brasB_shd (c:=⟨p,ins,ByteArray.empty⟩) h hi br 0 hb fun b hb=>(hwr b hb).1
     simp only[exsNm,tchSs,Bool.false_and,Bool.false_or,Bool.not_false,Bool.and_true]
     rw[List.any_eq_false]
     intro b hb
     simp[this b hb]
  rw[noe (by omega),nor k7]
  simp[tchSs,exsNm]
theorem stsB_shd {R:RT}{p:Int}{x:ByteArray}(h:Shd R p x):∀ (ins:List ByteArray)(l:List Stm),stsB R p ins l=none→WFss l→tchSs x (hasP ins x) l=false
 | ins,[],_,_=>by simp only[tchSs]
 | ins, s :: l, hb, hw => by
  simp only[WFss]at hw
  simp only[stsB]at hb
  obtain⟨h1,h2⟩:=or_none hb
  simp only[tchSs,Bool.or_eq_false_iff]
  exact⟨stB_shd h ins s h1 hw.1,stsB_shd h ins l h2 hw.2⟩
end
end Go.Vm.Typing
namespace Go.Vm.Typing
open Go Go.Proofs Go.Vm.Parse Go.Vm.Tree
attribute [local simp] repCells_succ writeAt rd_Fr toList_beq gpe gpn spe gse gsn
theorem exs_drop (x:ByteArray){l:List Ex}{i:Nat}(h:i<l.length):exsNm x (l.drop i)=(exNm x l[i] || exsNm x (l.drop (i+1))):=by
 rw[List.drop_eq_getElem_cons h,exsNm]
theorem exs_end (x:ByteArray)(l:List Ex):exsNm x (l.drop l.length)=false:=by rw[List.drop_length,exsNm]
theorem tch_drop (x:ByteArray)(b:Bool){l:List Stm}{i:Nat}(h:i<l.length):tchSs x b (l.drop i)=(tchS x b l[i] || tchSs x b (l.drop (i+1))):=by
 rw[List.drop_eq_getElem_cons h,tchSs]
theorem tch_end (x:ByteArray)(b:Bool)(l:List Stm):tchSs x b (l.drop l.length)=false:=by rw[List.drop_length,tchSs]
def brT (x:ByteArray)(inn:Bool)(l:List Bra):Bool:=l.any fun b=>exsNm x b.args && !inn
theorem brT_drop (x:ByteArray)(b:Bool){l:List Bra}{i:Nat}(h:i<l.length):brT x b (l.drop i)=((exsNm x l[i].args && !b) || brT x b (l.drop (i+1))):=by
 rw[List.drop_eq_getElem_cons h,brT,List.any_cons];rfl
theorem brT_end (x:ByteArray)(b:Bool)(l:List Bra):brT x b (l.drop l.length)=false:=by rw[List.drop_length];rfl
theorem cell0 {cs l:List Value}{n k:Nat}{v:Value}(h:(cs.drop n).take k=l)(hj:l[0]? = some v):cs[n]? = some v:=cell_at h hj
section
variable {E:Hooks} (hE:Plain E)
include hE
theorem c_exprs27 (args:List Value)(H:Heap):(run Tryz.prog E).call 22 args H=callB Tryz.prog E Tryz.f22 args H:=call_B Tryz.func22 rfl (by decide +kernel) (hE.no _ rfl rfl) args H
theorem c_touches27 (args:List Value)(H:Heap):(run Tryz.prog E).call 8 args H=callB Tryz.prog E Tryz.f8 args H:=call_B Tryz.func8 rfl (by decide +kernel) (hE.no _ rfl rfl) args H
theorem exs_run (x:ByteArray):∀ n l,szXs l<n→szXs l≤100000→∀ H v,GT repEx H v l→Gives ((run Tryz.prog E).call 22 [v,.string x] H) fun o H'=>o = .val (.bool (exsNm x l))∧Same (fun _=>False) H H':=by
 intro n
 induction n with
 | zero=>intro l h;omega
 | succ n ih =>
  intro l hn hl H v h1
  have ls:=szXs_len l
  obtain⟨b1,rfl⟩:=h1.slice
  rw[c_exprs27 hE,callB,bodyOf]
  simp[Tryz.f22]
  refine loop_wp (fun m t K=>∃ i:Nat,i+m=l.length∧rd t 5 = .int .i64 i∧exsNm x l=exsNm x (l.drop i)∧Same (fun _=>False) H K) l.length ?_ ?_
  · exact⟨0,by omega,by simp,by simp,Same.refl _ _⟩
  rintro m t K hk ⟨i,hm,g5,g3,kS⟩
  have ht:t.length=44:=hk.1.trans (by simp[len_Bs])
  have hh:=hk.all [0,1] (by decide +kernel)
  simp at hh
  obtain⟨g0,g1⟩:=hh
  clear hk
  rcases Nat.lt_or_ge i l.length with hi | hi
  · have G1':=h1.keep kS
    obtain⟨id1,tl1,cs1,rfl,-,-,p1,l1,r1⟩:=G1'.at hi
    have hm1:=List.getElem_mem hi
    have sz:=sz_mem hm1
    rw[exs_drop x hi]at g3
    generalize l[i]=X at *
    have hk0:repEx.k=6:=rfl
    rw[hk0]at p1 l1 r1
    obtain⟨k1,a1,n1,o1,x1,s1⟩:=X
    obtain⟨b2,ec,G2⟩:=ex_parts r1
    have A0:=cell0 ec rfl
    obtain⟨hl0,B0⟩:=List.getElem?_eq_some_iff.1 A0
    have A4:=cell_at ec (j:=4) rfl
    have A5:=cell_at ec (j:=5) rfl
    simp only[szX]at sz
    have hw:=wrap64 ((i:Int)+1) (by omega) (by omega)
    obtain⟨o,K',e3,rfl,k3⟩:=ih s1 (by omega) (by omega) K _ G2
    simp only[exNm]at g3
    have hI:∀ (b:Bool) (K2:Heap),exsNm x l=(b || exsNm x (l.drop (i+1)))→b=false→exsNm x l=exsNm x (l.drop (i+1)):=fun b _ h hb=>by rw[h,hb];rfl
    by_cases q3:k1=3<;>by_cases q4:k1=4<;>by_cases qx:x1=x<;>cases hs:exsNm x s1<;>rw[hs]at e3 <;>
     simp[hs,q3,q4,qx]at g3 <;>
     simp[ht,g0,g1,g5,hi,p1,l1,A0,B0,A4,A5,q3,q4,qx,e3,hw,g3,show i * 6+6≤l.length * 6 by omega] <;>
     first
     | done
     | exact kS
     | exact kS.trans k3
     | exact⟨m - 1,by omega,i+1,by omega,by simp[ht],by first | rfl | exact g3 | (rw[g3]),kS.trans k3⟩
     | trace_state;sorry
  · have e:i=l.length:=by omega
    rw[e,exs_end]at g3
    simp[ht,g0,g1,g5,g3,show ¬i<l.length by omega]
    exact kS
theorem tch_step (x:ByteArray)(n:Nat)(ih:∀ l,szSs l<n→szSs l≤100000→∀ inn H v,GT repStm H v l→Gives ((run Tryz.prog E).call 8 [v,.string x,.bool inn] H) fun o H'=>o = .val (.bool (tchSs x inn l))∧Same (fun _=>False) H H') :
  ∀ l,szSs l<n+1→szSs l≤100000→∀ inn H v,GT repStm H v l→Gives ((run Tryz.prog E).call 8 [v,.string x,.bool inn] H) fun o H'=>o = .val (.bool (tchSs x inn l))∧Same (fun _=>False) H H':=by
 intro l hn hl inn H v h1
 have ls:=szSs_len l
 obtain⟨b1,rfl⟩:=h1.slice
 rw[c_touches27 hE,callB,bodyOf]
 simp[Tryz.f8]
 refine loop_wp (fun m t K=>∃ i:Nat,i+m=l.length∧rd t 7 = .int .i64 i∧tchSs x inn l=tchSs x inn (l.drop i)∧Same (fun _=>False) H K) l.length ?_ ?_
 · exact⟨0,by omega,by simp,by simp,Same.refl _ _⟩
 rintro m t K hk ⟨i,hm,g7,g3,kS⟩
 have ht:t.length=102:=hk.1.trans (by simp[len_Bs])
 have hh:=hk.all [0,1,2] (by decide +kernel)
 simp at hh
 obtain⟨g0,g1,g2⟩:=hh
 clear hk
 rcases Nat.lt_or_ge i l.length with hi | hi
 · have G1':=h1.keep kS
   obtain⟨id1,tl1,cs1,rfl,-,-,p1,l1,r1⟩:=G1'.at hi
   have hm1:=List.getElem_mem hi
   have sz:=szs_mem hm1
   rw[tch_drop x inn hi]at g3
   generalize l[i]=X at *
   have hk0:repStm.k=8:=rfl
   rw[hk0]at p1 l1 r1
   obtain⟨k1,a1,x1,e1,bd1,el1,br1,it1⟩:=X
   obtain⟨w1,w2,w3,w4,w5,ec,G2,G3,G4,G5,G6⟩:=st_parts r1
   simp only[szS]at sz
   have hw:=wrap64 ((i:Int)+1) (by omega) (by omega)
   obtain⟨row,hrow⟩:∃ row,row=AObj.row true 0 1 [.int .i64 k1,.int .i64 a1,.string x1,.slice w1 e1.length e1.length,.slice w2 bd1.length bd1.length,.slice w3 el1.length el1.length,.slice w4 br1.length br1.length,.slice w5 it1.length it1.length]:=⟨_,rfl⟩
   have kp:Same (fun _=>False) K (K.push row):=Same.push _ _ _
   have z1:(K.push row).get K.n=row:=Heap.get_push_self _ _
   obtain⟨W,hW⟩:∃ W,W=(inn || decide (k1=10∧x1=x)):=⟨_,rfl⟩
   obtain⟨o,K2,e2,rfl,k2⟩:=exs_run hE x _ e1 (Nat.lt_succ_self _) (by omega) (K.push row) _ (G2.keep kp)
   have z2:=k2.at z1 (by rw[hrow];simp) fun h=>h
   obtain⟨o,K3,e3,rfl,k3⟩:=ih bd1 (by omega) (by omega) W K2 _ ((G3.keep kp).keep k2)
   have z3:=k3.at z2 (by rw[hrow];simp) fun h=>h
   obtain⟨o,K4,e4,rfl,k4⟩:=ih el1 (by omega) (by omega) inn K3 _ (((G4.keep kp).keep k2).keep k3)
   have z4:=k4.at z3 (by rw[hrow];simp) fun h=>h
   have G5':=(((G5.keep kp).keep k2).keep k3).keep k4
   have kA:Same (fun _=>False) H K4:=((((kS.trans kp).trans k2).trans k3).trans k4)
   simp only[tchS]at g3
   rw[← hW]at g3
   rw[code_seq,ends_then]
   refine ends_cut (fun t' K'=>K'=K∧t'.length=102∧rd t' 0 = .slice (some ⟨id1,0,none⟩) l.length l.length∧rd t' 1 = .string x∧rd t' 2 = .bool inn∧rd t' 7 = .int .i64 i) ?_ ?_
   · simp[ht,g0,g1,g2,g7,hi]
   rintro t' K' ⟨rfl,ht',g0',g1',g2',g7'⟩
   rw[code_seq,ends_then,code_block,ends_block,code_seq,ends_then]
   refine ends_cut (fun t' Q'=>Q'=K'.push row∧t'.length=102∧rd t' 0 = .slice (some ⟨id1,0,none⟩) l.length l.length∧rd t' 1 = .string x∧rd t' 2 = .bool inn∧rd t' 7 = .int .i64 i∧rd t' 8 = .pointer (some ⟨K'.n,0,none⟩)) ?_ ?_
   · simp[ht',g0',g1',g2',g7',hi,p1,l1,ec,show i * 8+8≤l.length * 8 by omega,hrow]
   rintro t1 K1 ⟨rfl,ht1,f0,f1,f2,f7,f8⟩
   rw[show (br1.any fun b=>exsNm x b.args && !inn)=brT x inn br1 from rfl]at g3
   rw[code_seq,ends_then]
   refine ends_cut (fun t'' Q'=>Q'=K'.push row∧t''.length=102∧rd t'' 0 = .slice (some ⟨id1,0,none⟩) l.length l.length∧rd t'' 1 = .string x∧rd t'' 2 = .bool inn∧rd t'' 7 = .int .i64 i∧rd t'' 8 = .pointer (some ⟨K'.n,0,none⟩)∧rd t'' 9 = .bool W) ?_ ?_
   · rw[hW]
     cases inn<;>by_cases q10:k1=10<;>by_cases qx:x1=x<;>simp[ht1,f0,f1,f2,f7,f8,hrow,q10,qx]
   rintro t2 K1 ⟨rfl,ht2,n0,n1,n2,n7,n8,n9⟩
   rw[code_seq,ends_then]
   refine ends_cut2 (fun t'' Q'=>Q'=K'.push row∧t''.length=102∧rd t'' 0 = .slice (some ⟨id1,0,none⟩) l.length l.length∧rd t'' 1 = .string x∧rd t'' 2 = .bool inn∧rd t'' 7 = .int .i64 i∧rd t'' 8 = .pointer (some ⟨K'.n,0,none⟩)∧rd t'' 9 = .bool W∧(!inn && decide ((k1=2∨k1=3∨k1=13∨k1=14)∧x1=x))=false) ?_ ?_
   · have kF:=kS.trans kp
     rcases (show k1=2∨k1=3∨k1=13∨k1=14∨(¬k1=2∧¬k1=3∧¬k1=13∧¬k1=14) by omega)with rfl | rfl | rfl | rfl | ⟨q2,q3,q13,q14⟩<;>cases inn<;>by_cases qx:x1=x <;>
      simp_all
   rintro t3 K1 ⟨rfl,ht3,o0,o1,o2,o7,o8,o9,hA⟩
   rw[hA,Bool.false_or]at g3
   rw[code_seq,ends_then]
   refine ends_cut2 (fun t'' Q'=>Q'=K4∧t''.length=102∧rd t'' 0 = .slice (some ⟨id1,0,none⟩) l.length l.length∧rd t'' 1 = .string x∧rd t'' 2 = .bool inn∧rd t'' 7 = .int .i64 i∧rd t'' 8 = .pointer (some ⟨K'.n,0,none⟩)∧tchSs x inn l=(brT x inn br1 || tchSs x inn (l.drop (i+1)))) ?_ ?_
   · rw[hrow]at z1 z2 z3 e2
     clear hW
     cases hE1:exsNm x e1<;>cases W<;>cases hB:tchSs x _ bd1<;>cases hL:tchSs x inn el1<;>rw[hE1]at e2<;>rw[hB]at e3<;>rw[hL]at e4<;>simp[hE1,hB,hL]at g3 <;>
      simp[ht3,o0,o1,o2,o7,o8,o9,hrow,e2,e3,e4,z1,z2,z3,g3]
     all_goals first | exact kA | exact ((kS.trans kp).trans k2).trans k3 | exact (kS.trans kp).trans k2
   rintro t4 K5 ⟨rfl,ht4,v0,v1,v2,v7,v8,g4⟩
   have lb:=szBs_len br1
   rw[hrow]at z4
   simp
   refine loop_wp (fun m t K=>∃ j:Nat,j+m=br1.length∧rd t 10 = .int .i64 j∧brT x inn br1=brT x inn (br1.drop j)∧Same (fun _=>False) K5 K) br1.length ?_ ?_
   · exact⟨0,by omega,by simp[ht4],by simp,Same.refl _ _⟩
   rintro m2 t5 K6 hk2 ⟨j,hm2,y10,g5,kD⟩
   have ht5:t5.length=102:=hk2.1.trans (by simp[ht4])
   have hh2:=hk2.all [0,1,2,7,8] (by decide +kernel)
   simp[ht4,v0,v1,v2,v7,v8]at hh2
   obtain⟨y0,y1,y2,y7,y8⟩:=hh2
   clear hk2
   have z5:=kD.at z4 (by simp) fun h=>h
   rcases Nat.lt_or_ge j br1.length with hj | hj
   · have G7:=G5'.keep kD
     obtain⟨id2,tl2,cs2,rfl,-,-,p2,l2,r2⟩:=G7.at hj
     have hm4:=szb_mem (List.getElem_mem hj)
     rw[brT_drop x inn hj]at g5
     generalize br1[j]=Y at *
     have hk1:repBra.k=4:=rfl
     rw[hk1]at p2 l2 r2
     obtain⟨f1,f2,ef,G8,G9⟩:=br_parts r2
     have B2:=cell_at ef (j:=2) rfl
     simp only[szB]at hm4
     obtain⟨o,K7,e7,rfl,k7⟩:=exs_run hE x _ Y.args (Nat.lt_succ_self _) (by omega) K6 _ G8
     have hwj:=wrap64 ((j:Int)+1) (by omega) (by omega)
     cases hY:exsNm x Y.args<;>cases inn<;>rw[hY]at e7 g5<;>simp at g5 <;>
      simp[ht5,y0,y1,y2,y7,y8,y10,z5,hj,p2,l2,B2,show j * 4+4≤br1.length * 4 by omega,e7,hwj,g4,g5]
     all_goals first
      | exact (kA.trans kD).trans k7
      | exact⟨m2 - 1,by omega,j+1,by omega,by simp[ht5],rfl,kD.trans k7⟩
      | trace_state
     all_goals sorry
   · have e:j=br1.length:=by omega
     rw[e,brT_end]at g5
     rw[g5,Bool.false_or]at g4
     simp[ht5,y0,y1,y2,y7,y8,y10,z5,show ¬j<br1.length by omega,hw]
     exact⟨m - 1,by omega,i+1,by omega,by simp[ht5],g4,kA.trans kD⟩
 · have e:i=l.length:=by omega
   rw[e,tch_end]at g3
   simp[ht,g0,g1,g2,g7,g3,show ¬i<l.length by omega]
   exact kS
theorem tch_run (x:ByteArray):∀ n l,szSs l<n→szSs l≤100000→∀ inn H v,GT repStm H v l→Gives ((run Tryz.prog E).call 8 [v,.string x,.bool inn] H) fun o H'=>o = .val (.bool (tchSs x inn l))∧Same (fun _=>False) H H':=by
 intro n
 induction n with
 | zero=>intro l h;omega
 | succ n ih=>exact tch_step hE x n ih
end
end Go.Vm.Typing
namespace Go.Vm.Typing
open Go Go.Proofs Go.Vm.Parse Go.Vm.Scope
theorem findP_app {β:Type}(x:ByteArray)(b:List (ByteArray × β)):∀ a:List (ByteArray × β),findP x (a++b)=(findP x a).or (findP x b)
 | []=>by simp[findP]
 | e :: a => by
  have ih:=findP_app x b a
  simp only[List.cons_append,findP]
  split
  · rfl
  · exact ih
theorem findP_zip_none {β:Type}{x:ByteArray}:∀ {l:List ByteArray}{m:List β},hasP l x=false→findP x (l.zip m)=none
 | [],_,_=>by simp[findP]
 | _ :: _,[],_=>by simp[findP]
 | y :: l, b :: m, h => by
  simp only[hasP,List.any_cons,Bool.or_eq_false_iff,decide_eq_false_iff_not]at h
  simp only[List.zip_cons_cons,findP]
  rw[if_neg h.1]
  exact findP_zip_none h.2
theorem rdecls_glob:∀ (l:List Dcl){R R':RT},rdeclsB R l = .ok R'→R.means.length=R.names.length→(∀ x m,glob R x=some m→glob R' x=some m)∧(∀ d∈l,∃ m,glob R' d.name=some m∧m.kind=d.kind)
 | [], R, R', e, h => by
  simp only[rdeclsB]at e
  cases e
  exact⟨fun x m h=>h,fun d hd=>by cases hd⟩
 | d :: l, R, R', e, h => by
  simp only[rdeclsB]at e
  cases hr:rdclB R d with
  | error q=>rw[hr]at e;cases e
  | ok R1 =>
   rw[hr]at e
   unfold rdclB at hr
   split at hr
   · cases hr
   · rename_i hn
     split at hr
     · cases hr
     · split at hr
       · cases hr
       · cases hr
         have hn':hasP R.names d.name=false:=by simpa using hn
         obtain⟨h1,h2⟩:=rdecls_glob l e (by simp[rdclT,h])
         have hz:∀ x,glob (rdclT R d) x=(glob R x).or (findP x [(d.name,(⟨d.kind,cntP d.kind R.means,if clsP d.kind=3 then d.n else 0⟩:Nm))]):=fun x=>by
          unfold glob
          simp only[rdclT]
          rw[List.zip_append h.symm,findP_app]
          rfl
         refine⟨fun x m hx=>h1 x m (by rw[hz,hx];rfl),fun d' hd' => ?_⟩
         rcases List.mem_cons.1 hd' with rfl | hd'
         · refine⟨_,h1 _ _ (?_:glob (rdclT R d') d'.name=some ⟨d'.kind,cntP d'.kind R.means,if clsP d'.kind=3 then d'.n else 0⟩),rfl⟩
           have hg:glob R d'.name=none:=findP_zip_none hn'
           rw[hz,hg]
           simp[findP]
         · exact h2 d' hd'
theorem rprocs_glob:∀ (l:List Prc){R R':RT},rprocsB R l = .ok R'→∀ x,glob R' x=glob R x
 | [], R, R', e => by
  simp only[rprocsB]at e
  cases e
  exact fun _=>rfl
 | p :: l, R, R', e => by
  simp only[rprocsB]at e
  cases hr:rprcB R p with
  | error q=>rw[hr]at e;cases e
  | ok R1 =>
   rw[hr]at e
   intro x
   rw[rprocs_glob l e x]
   unfold rprcB at hr
   split at hr
   · cases hr
   · split at hr
     · cases hr
     · split at hr
       · cases hr
       · cases hr;rfl
theorem build_glob {s:Src}{R:RT}(e:rbuildB s = .ok R):∀ d∈s.decls,∃ m,glob R d.name=some m∧m.kind=d.kind:=by
 unfold rbuildB at e
 cases h1:rdeclsB rt0 s.decls with
 | error q=>rw[h1]at e;cases e
 | ok R1 =>
  rw[h1]at e
  intro d hd
  obtain⟨m,h2,h3⟩:=(rdecls_glob s.decls h1 rfl).2 d hd
  exact⟨m,by rw[rprocs_glob s.procs e];exact h2,h3⟩
theorem prcsB_at {R:RT}:∀ (l:List Prc)(i:Nat),prcsB R i l=none→∀ k (h:k<l.length),stsB R ((i+k:Nat)+1) [] l[k].body=none
 | [],_,_,k,h=>absurd h (Nat.not_lt_zero _)
 | q :: l, i, hb, k, h => by
  simp only[prcsB]at hb
  obtain⟨h1,h2⟩:=or_none hb
  cases k with
  | zero=>simpa using h1
  | succ k =>
   have:=prcsB_at l (i+1) h2 k (by simpa using h)
   simp only[List.getElem_cons_succ]
   rw[show i+(k+1)=i+1+k by omega]
   exact this
theorem check_shd {s:Src}{R:RT}{n:Nat}(sok:SrcOK s n)(e:rbuildB s = .ok R)(hc:checkB R s=none){d:Dcl}(hd:d∈s.decls)(hk:d.kind=3) :
  (isLoc R 0 d.name=false→tchSs d.name false s.body=false)∧∀ k (h:k<s.procs.length),isLoc R ((k:Int)+1) d.name=false→tchSs d.name false s.procs[k].body=false:=by
 obtain⟨m,hg,hm⟩:=build_glob e d hd
 unfold checkB at hc
 obtain⟨h1,h2⟩:=or_none hc
 obtain⟨_,h3⟩:=or_none h2
 refine⟨fun hl=>stsB_shd ⟨hl,m,hg,hm.trans hk⟩ [] s.body h3 sok.body,fun k h hl => ?_⟩
 have:=prcsB_at s.procs 0 h1 k h
 rw[Nat.zero_add]at this
 exact stsB_shd ⟨hl,m,hg,hm.trans hk⟩ [] _ this (sok.procs _ (List.getElem_mem h))
end Go.Vm.Typing
namespace Go.Vm
open Go Go.Proofs
variable {P:Program}
theorem equal_int {t:TypeId}{k:IntKind} {sg}(h:P.underlying t=some (.int sg))(d:Nat)(a c:Int):pureRun P (Op.equalIn (d+1) t (.int k a) (.int k c))=some (a == c):=by
 unfold Op.equalIn
 rw[pureRun_bind _ _ _ (pureRun_underlying h)]
 simp
theorem equal_string {t:TypeId}(h:P.underlying t=some .string)(d:Nat)(a c:ByteArray):pureRun P (Op.equalIn (d+1) t (.string a) (.string c))=some (a == c):=by
 unfold Op.equalIn
 rw[pureRun_bind _ _ _ (pureRun_underlying h)]
 rfl
theorem part_one {t:TypeId}{cs:Array Value}{off:Nat}{v:Value}{d:TypeDesc}(h:P.underlying t=some d)(hd:(match d with | .struct _ | .array _ _=>true | _=>false)=false)(hv:cs[off]? = some v):pureRun P (part t cs off)=some v:=by
 unfold part
 have e:pureRun P (isAgg t)=some false:=by
  unfold isAgg
  rw[pureRun_bind _ _ _ (pureRun_underlying h)]
  cases d<;>first | rfl | cases hd
 rw[pureRun_bind _ _ _ e]
 simp[hv]
def cellEq (d:Option TypeDesc):Option Value→Option Value→Option Bool
 | some (.int k a),some (.int k' b)=>match d with | some (.int _)=>if k=k' then some (decide (a=b))else none | _=>none
 | some (.string a),some (.string b)=>match d with | some .string=>some (decide (a=b)) | _=>none
 | _,_=>none
def fieldsEq (P:Program)(xs ys:List Value):List Field→Option Bool
 | []=>some true
 | f :: fs => if f.name ≠ "_" then (match cellEq (P.underlying f.type) xs[f.offset]? ys[f.offset]? with
  | some true=>fieldsEq P xs ys fs
  | some false=>some false
  | none=>none)else fieldsEq P xs ys fs
theorem cell_eq {t:TypeId}{xs ys:Array Value}{off:Nat}{r:Bool}(h:cellEq (P.underlying t) xs[off]? ys[off]? = some r)(d:Nat) :
  ∃ v u,pureRun P (part t xs off)=some v∧pureRun P (part t ys off)=some u∧pureRun P (Op.equalIn (d+1) t v u)=some r:=by
 unfold cellEq at h
 split at h
 · rename_i k a k' b h1 h2
   split at h
   · rename_i d1 s hu
     split at h
     · rename_i hk
       subst hk
       cases h
       refine⟨_,_,part_one hu rfl h1,part_one hu rfl h2,?_⟩
       rw[equal_int hu]
       rfl
     · cases h
   · cases h
 · rename_i a b h1 h2
   split at h
   · rename_i hu
     cases h
     refine⟨_,_,part_one hu rfl h1,part_one hu rfl h2,?_⟩
     rw[equal_string hu]
     congr 1
     obtain⟨x⟩:=a
     obtain⟨y⟩:=b
     show (x == y)=_
     by_cases h:x=y
     · subst h;simp
     · rw[decide_eq_false (fun e=>h (by cases e;rfl))]
       simpa using h
   · cases h
 · cases h
theorem loop_eq {xs ys:Array Value}{d:Nat}:∀ {fs:List Field}{r:Bool},fieldsEq P xs.toList ys.toList fs=some r →
  pureRun P (forIn fs ((none,()):Option Bool × Unit) fun f __s =>
      if f.name ≠ "_" then do
       let __do_lift ← part f.type xs f.offset
       let __do_lift_1 ← part f.type ys f.offset
       let __do_lift ← Op.equalIn (d+1) f.type __do_lift __do_lift_1
       if (!__do_lift)=true then pure (ForInStep.done (some false,()))else pure (ForInStep.yield (none,()))
      else pure (ForInStep.yield (none,())))=some (if r=true then (none,())else (some false,()))
 | [], r, h => by
  cases h
  rfl
 | f :: fs, r, h => by
  rw[List.forIn_cons]
  simp only[fieldsEq]at h
  split at h
  · rename_i hn
    rw[if_pos hn]
    split at h
    · rename_i hc
      simp only[Array.getElem?_toList]at hc
      obtain⟨v,u,h1,h2,h3⟩:=cell_eq hc d
      rw[pureRun_bind (a:=ForInStep.yield (none,()))]
      · exact loop_eq h
      · rw[pureRun_bind _ _ _ h1,pureRun_bind _ _ _ h2,pureRun_bind _ _ _ h3];rfl
    · rename_i hc
      simp only[Array.getElem?_toList]at hc
      cases h
      obtain⟨v,u,h1,h2,h3⟩:=cell_eq hc d
      rw[pureRun_bind (a:=ForInStep.done (some false,()))]
      · rfl
      · rw[pureRun_bind _ _ _ h1,pureRun_bind _ _ _ h2,pureRun_bind _ _ _ h3];rfl
    · cases h
  · rename_i hn
    rw[if_neg hn]
    rw[pureRun_bind (a:=ForInStep.yield (none,())) _ _ rfl]
    exact loop_eq h
theorem equal_struct {t:TypeId}{fs:List Field}(h:P.underlying t=some (.struct ⟨fs⟩))(hs:P.stoodInHeld t=false){xs ys:Array Value}{r:Bool}(he:fieldsEq P xs.toList ys.toList fs=some r):pureRun P (Op.equal t (.agg xs) (.agg ys))=some r:=by
 unfold Op.equal
 show pureRun P (Op.equalIn (9998+1+1) t (.agg xs) (.agg ys))=_
 unfold Op.equalIn
 rw[pureRun_bind _ _ _ (pureRun_underlying h)]
 simp only[]
 rw[pureRun_bind (a:=P) _ _ rfl]
 rw[if_neg (by rw[hs];simp)]
 rw[List.forIn_toArray,pureRun_bind _ _ _ (loop_eq he)]
 cases r<;>rfl
theorem bin_struct {t:TypeId}{x y:Operand}{fs:List Field}(h:P.underlying t=some (.struct ⟨fs⟩))(hs:P.stoodInHeld t=false)(hg:P.eqGuardType P.depth t=false){xs ys:List Value}{r:Bool}(hx:ground (.agg ⟨xs⟩)=true)(hy:ground (.agg ⟨ys⟩)=true)
  (he:fieldsEq P xs ys fs=some r):exBin P .eql t x y (.agg ⟨xs⟩) (.agg ⟨ys⟩)=some (.bool r)∧exBin P .neq t x y (.agg ⟨xs⟩) (.agg ⟨ys⟩)=some (.bool (!r)):=by
 have e:=equal_struct h hs (xs:=⟨xs⟩) (ys:=⟨ys⟩) he
 have g:∀ op,pureRun P (eqGuard op t x y (.agg ⟨xs⟩) (.agg ⟨ys⟩))=some ():=fun op=>by
  unfold eqGuard
  cases op<;>first | rfl | (simp only[];simp;rw[pureRun_bind (a:=P) _ _ rfl,pureRun_bind (a:=P) _ _ rfl,if_pos hg];rfl)
 constructor
 · simp only[exBin,hx,hy,Bool.and_self]
   rw[pureRun_bind _ _ _ (g .eql)]
   show ifGround (pureRun P (do pure (.bool (← Op.equal t (.agg ⟨xs⟩) (.agg ⟨ys⟩)))))=_
   rw[pureRun_bind _ _ _ e]
   rfl
 · simp only[exBin,hx,hy,Bool.and_self]
   rw[pureRun_bind _ _ _ (g .neq)]
   show ifGround (pureRun P (do pure (.bool (!(← Op.equal t (.agg ⟨xs⟩) (.agg ⟨ys⟩))))))=_
   rw[pureRun_bind _ _ _ e]
   rfl
end Go.Vm
namespace Go.Vm.Parse
open Go Go.Proofs
noncomputable def fsOf (t:TypeId):List Field:=match Tryz.prog.underlying t with | some (.struct ⟨fs⟩)=>fs | _=>[]
theorem und_fault:Tryz.prog.underlying 38=some (.struct ⟨fsOf 38⟩):=by kernel_rfl
theorem held_fault:Tryz.prog.stoodInHeld 38=false:=by kernel_rfl
theorem gt_fault:Tryz.prog.eqGuardType Tryz.prog.depth 38=false:=by kernel_rfl
theorem fe_fault (a b c d:Int):fieldsEq Tryz.prog [.int .i64 a,.int .i64 b] [.int .i64 c,.int .i64 d] (fsOf 38)=some (decide (a=c) && decide (b=d)):=by
 have e:fieldsEq Tryz.prog [.int .i64 a,.int .i64 b] [.int .i64 c,.int .i64 d] (fsOf 38)=(match some (decide (a=c))with | some true=>(match some (decide (b=d))with | some true=>some true | some false=>some false | none=>none) | some false=>some false | none=>none):=by kernel_rfl
 rw[e]
 cases decide (a=c)<;>cases decide (b=d)<;>rfl
theorem fault_eql (x y:Operand)(a b c d:Int):exBin Tryz.prog .eql 38 x y (.agg ⟨[.int .i64 a,.int .i64 b]⟩) (.agg ⟨[.int .i64 c,.int .i64 d]⟩)=some (.bool (decide (a=c) && decide (b=d))) :=
 (bin_struct und_fault held_fault gt_fault rfl rfl (fe_fault a b c d)).1
end Go.Vm.Parse
namespace Go.Vm.Scope
open Go Go.Proofs Go.Vm.Parse
attribute [local simp] repCells_succ writeAt rd_Fr toList_beq gpe gpn spe gse gsn ne_r0 ne_l0 le_s0 ne_r1 ne_l1 lt_s1 le_s1 ne_r2 ne_l2 lt_s2 le_s2 ne_r3 ne_l3 lt_s3 le_s3 ne_r4 ne_l4 lt_s4 le_s4 ne_r5 ne_l5 lt_s5 le_s5 ne_r6 ne_l6 lt_s6 le_s6 ne_r7 ne_l7 lt_s7 le_s7
theorem idx_shift (x:ByteArray)(j:Nat):∀ (k:Nat)(l:List ByteArray),idxF x (k+j) l=Option.map (fun n=>n+j) (idxF x k l)
 | _,[]=>rfl
 | k, a :: l => by
  simp only[idxF]
  split
  · rfl
  · rw[show k+j+1=k+1+j by omega];exact idx_shift x j (k+1) l
theorem inV_map (o:Option Nat)(d:Nat):inV (Option.map (fun n:Nat=>(n:Int)) (Option.map (fun n=>n+d) o))=rIdx o d:=by
 cases o<;>simp[inV,rIdx]
theorem inV_map0 (o:Option Nat):inV (Option.map (fun n:Nat=>(n:Int)) o)=rIdx o 0:=by
 cases o<;>simp[inV,rIdx]
section
variable {T:Tab} {R:RT} (h:Agree T R)
include h
theorem Agree.proc (x:ByteArray):inV (findP x T.procs)=rIdx (idxF x 0 R.procs) 1∧(findP x T.procs).isSome=(idxF x 0 R.procs).isSome:=by
 rw[h.a7,find_num,some_map,show (1:Nat)=0+1 from rfl,idx_shift,inV_map]
 exact⟨rfl,by cases idxF x 0 R.procs<;>rfl⟩
theorem Agree.locals (i:Int):localsAt T i=numF 0 (rlocalsAt R i):=by
 unfold localsAt rlocalsAt
 rw[h.a8]
 by_cases h0:i<0
 · rw[if_pos h0,if_pos (by omega)];rfl
 · rw[if_neg h0]
   by_cases h1:i<1
   · rw[if_pos h1,show i.toNat=0 by omega];rfl
   · rw[if_neg h1,show i.toNat=(i - 1).toNat+1 by omega,List.getElem?_cons_succ,List.getElem?_map]
     cases R.locals[(i - 1).toNat]?<;>rfl
theorem Agree.local_ (i:Int)(x:ByteArray):inV (findP x (localsAt T i))=rIdx (idxF x 0 (rlocalsAt R i)) 0∧(findP x (localsAt T i)).isSome=(idxF x 0 (rlocalsAt R i)).isSome:=by
 rw[h.locals,find_num,some_map,inV_map0]
 exact⟨rfl,rfl⟩
theorem Agree.params (i:Int):paramAt T i=rheadAt R i:=by
 unfold paramAt rheadAt
 rw[h.a9]
 by_cases h0:i<0
 · rw[if_pos h0,if_pos (by omega)]
 · rw[if_neg h0]
   by_cases h1:i<1
   · rw[if_pos h1,show i.toNat=0 by omega];rfl
   · rw[if_neg h1,show i.toNat=(i - 1).toNat+1 by omega,List.getElem?_cons_succ]
theorem Agree.size (i:Int):(localsAt T i).length=(rlocalsAt R i).length:=by rw[h.locals,numF_len]
end
section
variable {E:Hooks} (hE:Plain E)
include hE
end
end Go.Vm.Scope
namespace Go.Vm.Typing
open Go Go.Proofs Go.Vm.Parse Go.Vm.Scope
attribute [local simp] repCells_succ writeAt rd_Fr toList_beq gpe gpn spe gse gsn ne_r0 ne_l0 le_s0 ne_r1 ne_l1 lt_s1 le_s1 ne_r2 ne_l2 lt_s2 le_s2 ne_r3 ne_l3 lt_s3 le_s3 ne_r4 ne_l4 lt_s4 le_s4 ne_r5 ne_l5 lt_s5 le_s5 ne_r6 ne_l6 lt_s6 le_s6 ne_r7 ne_l7 lt_s7 le_s7
def fltV (q:Flt):Value := .iface 38 (.agg ⟨[.int .i64 q.1,.int .i64 q.2]⟩)
def outF (f:Option Flt):Out:=match f with
 | none => .val (.tuple #[])
 | some q => .pan (fltV q)
theorem iface_flt (v:Value)(H:Heap):ifaceA Tryz.prog 38 (some v) H=some (.val (.iface 38 v),H):=by simp[ifaceA]
section
variable {E:Hooks} (hE:Plain E)
include hE
theorem c_tfail (args:List Value)(H:Heap):(run Tryz.prog E).call 50 args H=callB Tryz.prog E Tryz.f50 args H:=call_B Tryz.func50 rfl (by decide +kernel) (hE.no _ rfl rfl) args H
theorem tfail_run (c a:Int)(H:Heap):(run Tryz.prog E).call 50 [.int .i64 c,.int .i64 a] H=some (.pan (fltV (c,a)),H):=by
 suffices key:Gives ((run Tryz.prog E).call 50 [.int .i64 c,.int .i64 a] H) fun o H'=>o = .pan (fltV (c,a))∧H'=H by
  obtain⟨o,H',e,rfl,rfl⟩:=key
  exact e
 rw[c_tfail hE,callB,bodyOf]
 simp[Tryz.f50,iface_flt,fltV]
theorem c_tmeans (args:List Value)(H:Heap):(run Tryz.prog E).call 73 args H=callB Tryz.prog E Tryz.f73 args H:=call_B Tryz.func73 rfl (by decide +kernel) (hE.no _ rfl rfl) args H
theorem c_tmust (args:List Value)(H:Heap):(run Tryz.prog E).call 51 args H=callB Tryz.prog E Tryz.f51 args H:=call_B Tryz.func51 rfl (by decide +kernel) (hE.no _ rfl rfl) args H
theorem c_tvar (args:List Value)(H:Heap):(run Tryz.prog E).call 54 args H=callB Tryz.prog E Tryz.f54 args H:=call_B Tryz.func54 rfl (by decide +kernel) (hE.no _ rfl rfl) args H
end
def InS (H:Heap)(S:Nat→Prop)(v:Value)(l:List ByteArray):Prop :=
 (∃ n,n=0∧v = .slice none n n∧l=[])∨∃ (id tl cap:Nat) (cs:List Value),v = .slice (some ⟨id,0,none⟩) l.length cap∧tl≤1∧S id∧H.get id = .row true tl 1 cs∧cs.length=cap∧l.length≤cap∧cs.take l.length=l.map Value.string
theorem InS.move {H H':Heap}{X S S':Nat→Prop}{v:Value}{l:List ByteArray}(h:InS H S v l)(k:Same X H H')(hs:∀ i,S i→i<H.n→S' i∧¬X i):InS H' S' v l:=by
 refine h.imp id ?_
 rintro⟨id,tl,cap,cs,h1,h2,h3,h4,h5,h6,h7⟩
 have:=hs id h3 (Heap.lt_of_get h4 (by simp))
 exact⟨id,tl,cap,cs,h1,h2,this.1,k.at h4 (by simp) this.2,h5,h6,h7⟩
def tk4 (tid:Nat)(p:Int)(v:Value)(cond:ByteArray):List Value:=[.pointer (some ⟨tid,0,none⟩),.int .i64 p,v,.string cond]
structure CT (H0 H:Heap)(tid cid:Nat)(c:At)(v:Value):Prop where
 kp:Same (fun i=>H0.n≤i) H0 H
 hc:H0.n≤cid
 obj:H.get cid = .row true 0 1 (tk4 tid c.p v c.cond)
 gi:InS H (fun i=>H0.n≤i∧i≠cid) v c.ins
 il:c.ins.length≤100000
theorem CT.keep {H0 H H':Heap}{tid cid:Nat}{c:At}{v:Value}(h:CT H0 H tid cid c v)(k:Same (fun _=>False) H H'):CT H0 H' tid cid c v :=
 ⟨h.kp.then k fun _ h=>h.elim,h.hc,k.at h.obj (by simp) fun h=>h,h.gi.move k fun i hi _=>⟨hi,fun h=>h⟩,h.il⟩
theorem rIdx_prc' (R:RT)(x:ByteArray):rIdx (idxF x 0 R.procs) 1 = .int .i64 (prcOf R x):=by unfold rIdx prcOf;cases idxF x 0 R.procs<;>rfl
def meansP (R:RT)(p:Int)(x:ByteArray):Nm × Int :=
 if isLoc R p x=true then (⟨0,0,0⟩,-1)else match glob R x with
 | some m=>(m,m.kind)
 | none=>if isPrc R x=true then (⟨0,prcOf R x,0⟩,-2)else (⟨0,0,0⟩,0)
theorem q_tmeans:quiet Tryz.prog (drawN Tryz.f73 0)=true:=by decide +kernel
theorem pl_tmeans:planOf Tryz.prog (drawN Tryz.f73 1)=some [none,some (0,1),some (0,1),none,none]:=by decide +kernel
section
variable {E:Hooks} (hE:Plain E)
include hE
variable {H0:Heap} {tid cid:Nat} {v:Value} {c:At} {col:Nat→Nat} {nid pid rid:Nat} {v1 v2 v3 v4 v5:Value} {T:Tab} (hT:RTab H0 col tid nid pid rid v1 v2 v3 v4 v5 T) {R:RT} (ha:Scope.Agree T R) (hok:TOK T)
include hT
omit hE in
theorem CT.tab {H:Heap}(h:CT H0 H tid cid c v):RTab H col tid nid pid rid v1 v2 v3 v4 v5 T:=hT.keep h.kp fun i hi=>hT.top i hi
include ha hok
theorem tmeans_run {H:Heap}(h:CT H0 H tid cid c v)(x:ByteArray):∃ H',(run Tryz.prog E).call 73 [.pointer (some ⟨cid,0,none⟩),.string x] H=some (.val (.tuple #[(meansP R c.p x).1.v,.int .i64 (meansP R c.p x).2]),H')∧Same (fun _=>False) H H':=by
 suffices key:Gives ((run Tryz.prog E).call 73 [.pointer (some ⟨cid,0,none⟩),.string x] H) fun o H'=>o = .val (.tuple #[(meansP R c.p x).1.v,.int .i64 (meansP R c.p x).2])∧Same (fun _=>False) H H' by
  obtain⟨o,H',e,rfl,k⟩:=key
  exact⟨H',e,k⟩
 have kp:Same (fun _=>False) H (H.push (.row true 0 1 [.int .i64 0,.int .i64 0,.int .i64 0])):=Same.push _ _ _
 have h1:=h.keep kp
 have g:=h1.obj
 simp only[tk4]at g
 have gr:(H.push (.row true 0 1 [.int .i64 0,.int .i64 0,.int .i64 0])).get H.n = .row true 0 1 [.int .i64 0,.int .i64 0,.int .i64 0]:=Heap.get_push_self _ _
 obtain⟨K1,e1,k1⟩:=local_run hE (CT.tab hT h1) c.p x (by have:=hok.l;have:=hok.q;omega)
 rw[(ha.local_ _ x).1,(ha.local_ _ x).2,show (idxF x 0 (rlocalsAt R c.p)).isSome=isLoc R c.p x from rfl]at e1
 obtain⟨i0,hi0⟩:∃ i,rIdx (idxF x 0 (rlocalsAt R c.p)) 0 = .int .i64 i:=⟨_,rfl⟩
 rw[hi0]at e1
 rw[c_tmeans hE,callB,bodyOf]
 simp[Tryz.f73]
 refine region_quiet (by exact q_tmeans) ?_
 generalize hHb:H.push (.row true 0 1 [.int .i64 0,.int .i64 0,.int .i64 0])=Hb at *
 have g1:=k1.at g (by simp) (fun h=>h)
 have gr1:=k1.at gr (by simp) (fun h=>h)
 have lr1:=Heap.lt_of_get gr1 (by simp)
 unfold meansP
 by_cases hl:isLoc R c.p x=true
 · simp[g,e1,hl,gr1,lr1]
   refine⟨rfl,(kp.trans k1).then_set lr1 (.inr (by omega)) _⟩
 · obtain⟨K2,e2,k2⟩:=global_run hE (CT.tab hT (h1.keep k1)) x
   rw[ha.a1,show findP x (R.names.zip R.means)=glob R x from rfl]at e2
   have kA:=k1.trans k2
   simp[g,e1,hl,g1,e2]
   cases hgl:glob R x with
   | some m =>
    rw[hgl]at e2
    have gr3:(K2.push (.row true 0 1 [.int .i64 m.kind,.int .i64 m.index,.int .i64 m.size])).get H.n=_:=(kA.then_push _).at gr (by simp) (fun h=>h)
    have gm3:(K2.push (.row true 0 1 [.int .i64 m.kind,.int .i64 m.index,.int .i64 m.size])).get K2.n = .row true 0 1 [.int .i64 m.kind,.int .i64 m.index,.int .i64 m.size]:=Heap.get_push_self _ _
    have k3:Same (fun _=>False) H (K2.push (.row true 0 1 [.int .i64 m.kind,.int .i64 m.index,.int .i64 m.size])):=(kp.trans kA).then_push _
    have lr3:=Heap.lt_of_get gr3 (by simp)
    simp[nmV,Nm.v]
    refine region_plan (by exact pl_tmeans) ?_
    generalize K2.push (.row true 0 1 [.int .i64 m.kind,.int .i64 m.index,.int .i64 m.size])=K3 at *
    have nb:H.n<Hb.n:=Heap.lt_of_get gr (by simp)
    have nn:K2.n≠H.n:=by have:=kA.n;omega
    have gs3:∀ o,(K3.set H.n o).get K2.n = .row true 0 1 [.int .i64 m.kind,.int .i64 m.index,.int .i64 m.size]:=fun o=>by rw[Heap.get_set _ _ _ lr3,if_neg nn];exact gm3
    simp[gr3,gm3,lr3,gs3]
    exact k3.then_set lr3 (.inr (by omega)) _
   | none =>
    rw[hgl]at e2
    have gr3:(K2.push (.row true 0 1 [.int .i64 0,.int .i64 0,.int .i64 0])).get H.n=_:=(kA.then_push _).at gr (by simp) (fun h=>h)
    have k3:Same (fun _=>False) Hb (K2.push (.row true 0 1 [.int .i64 0,.int .i64 0,.int .i64 0])):=kA.then_push _
    have g4:=k3.at g (by simp) (fun h=>h)
    have k3':Same (fun _=>False) H (K2.push (.row true 0 1 [.int .i64 0,.int .i64 0,.int .i64 0])):=kp.trans k3
    simp[nmV,zN]
    generalize K2.push (.row true 0 1 [.int .i64 0,.int .i64 0,.int .i64 0])=K3 at *
    obtain⟨K4,e4,k4⟩:=procN_run hE (CT.tab hT (h1.keep k3)) x
    rw[(ha.proc x).1,(ha.proc x).2,rIdx_prc',show (idxF x 0 R.procs).isSome=isPrc R x from rfl]at e4
    have gr4:=k4.at gr3 (by simp) (fun h=>h)
    have lr4:=Heap.lt_of_get gr4 (by simp)
    by_cases hp:isPrc R x=true
    · simp[g4,e4,hp,gr4,lr4]
      exact⟨rfl,(k3'.trans k4).then_set lr4 (.inr (by omega)) _⟩
    · simp[g4,e4,hp,gr4,lr4]
      exact⟨rfl,(k3'.trans k4).then_set lr4 (.inr (by omega)) _⟩
theorem tmust_run (hgd:RGood R){H:Heap}(h:CT H0 H tid cid c v)(x:ByteArray)(a k:Int)(hk:k = -2∨1≤k):∃ o H',(run Tryz.prog E).call 51 [.pointer (some ⟨cid,0,none⟩),.string x,.int .i64 a,.int .i64 k] H=some (o,H')∧Same (fun _=>False) H H' ∧
  o=match mustB R c.p x a k with | none=>Out.val (meansP R c.p x).1.v | some q => .pan (fltV q):=by
 suffices key:Gives ((run Tryz.prog E).call 51 [.pointer (some ⟨cid,0,none⟩),.string x,.int .i64 a,.int .i64 k] H) fun o H'=>Same (fun _=>False) H H'∧o=match mustB R c.p x a k with | none=>Out.val (meansP R c.p x).1.v | some q => .pan (fltV q) by
  obtain⟨o,H',e,k⟩:=key
  exact⟨o,H',e,k⟩
 have kp:Same (fun _=>False) H (H.push (.row true 0 1 [.int .i64 0,.int .i64 0,.int .i64 0])):=Same.push _ _ _
 have h1:=h.keep kp
 have gr:(H.push (.row true 0 1 [.int .i64 0,.int .i64 0,.int .i64 0])).get H.n = .row true 0 1 [.int .i64 0,.int .i64 0,.int .i64 0]:=Heap.get_push_self _ _
 obtain⟨K1,e1,k1⟩:=tmeans_run hE hT ha hok h1 x
 have kd := @RGood.kind _ hgd x
 have hm:mustB R c.p x a k=if (meansP R c.p x).2=0 then some (18,a)else if (meansP R c.p x).2=k then none else some (19,a):=by
  unfold mustB meansP
  by_cases hl:isLoc R c.p x=true
  · rw[if_pos hl,if_pos hl]
    simp only
    rw[if_neg (by decide),if_neg (by omega)]
  · rw[if_neg hl,if_neg hl]
    cases hg:glob R x with
    | some m =>
     have:=kd hg
     simp only
     rw[if_neg (show ¬m.kind=0 by omega)]
    | none =>
     simp only
     by_cases hp:isPrc R x=true
     · rw[if_pos hp,if_pos hp]
       simp only
       rw[if_neg (show ¬(-2:Int)=0 by decide)]
       by_cases hk2:k = -2
       · rw[if_pos hk2,if_pos hk2.symm]
       · rw[if_neg hk2,if_neg (fun e=>hk2 e.symm)]
     · rw[if_neg hp,if_neg hp]
       simp
 rw[hm]
 generalize meansP R c.p x=M at *
 obtain⟨⟨mk,mi,ms⟩,ki⟩:=M
 have gr2:=(k1.then_push (.row true 0 1 [.int .i64 mk,.int .i64 mi,.int .i64 ms])).at gr (by simp) (fun h=>h)
 have gm2:(K1.push (.row true 0 1 [.int .i64 mk,.int .i64 mi,.int .i64 ms])).get K1.n = .row true 0 1 [.int .i64 mk,.int .i64 mi,.int .i64 ms]:=Heap.get_push_self _ _
 have k2:Same (fun _=>False) H (K1.push (.row true 0 1 [.int .i64 mk,.int .i64 mi,.int .i64 ms])):=(kp.trans k1).then_push _
 have lr2:=Heap.lt_of_get gr2 (by simp)
 simp only[Nm.v]at e1 ⊢
 rw[c_tmust hE,callB,bodyOf]
 simp[Tryz.f51,e1]
 generalize K1.push (.row true 0 1 [.int .i64 mk,.int .i64 mi,.int .i64 ms])=K2 at *
 by_cases h0:ki=0
 · have ef:=tfail_run hE 18 a K2
   simp[h0,ef]
   exact k2
 · by_cases hki:ki=k
   · subst hki
     simp[h0,gr2,gm2,lr2]
     exact k2.then_set lr2 (.inr (by omega)) _
   · have ef:=tfail_run hE 19 a K2
     simp[h0,hki,ef]
     exact k2
end
theorem InS.at {H:Heap}{S:Nat→Prop}{v:Value}{l:List ByteArray}(h:InS H S v l){k:Nat}(hk:k<l.length):∃ id tl cap cs,v = .slice (some ⟨id,0,none⟩) l.length cap∧H.get id = .row true tl 1 cs∧∃ h:k<cs.length,cs[k]'h = .string l[k]:=by
 rcases h with⟨n,rfl,rfl,rfl⟩ | ⟨id,tl,cap,cs,h1,h2,h3,h4,h5,h6,h7⟩
 · cases hk
 · refine⟨id,tl,cap,cs,h1,h4,by omega,?_⟩
   have e:(cs.take l.length)[k]? = some (.string l[k]):=by rw[h7];simp[hk]
   rw[List.getElem?_take_of_lt hk]at e
   exact (List.getElem?_eq_some_iff.1 e).2
theorem InS.slice {H:Heap}{S:Nat→Prop}{v:Value}{l:List ByteArray}(h:InS H S v l):∃ b cap,v = .slice b l.length cap:=by
 rcases h with⟨n,rfl,rfl,rfl⟩ | ⟨id,tl,cap,cs,h1,_⟩
 · exact⟨none,0,rfl⟩
 · exact⟨_,_,h1⟩
theorem isEmpty_eq' (b:ByteArray):b.toList.isEmpty=decide (b=ByteArray.empty):=by
 rw[← toList_beq,ByteArray.toList_eq,ByteArray.toList_eq]
 obtain⟨⟨l⟩⟩:=b
 cases l<;>rfl
def ixV (o:Option Nat):Int:=match o with
 | some n=>n
 | none => -1
section
variable {E:Hooks} (hE:Plain E)
include hE
theorem c_tindex (args:List Value)(H:Heap):(run Tryz.prog E).call 89 args H=callB Tryz.prog E Tryz.f89 args H:=call_B Tryz.func89 rfl (by decide +kernel) (hE.no _ rfl rfl) args H
theorem c_tcontains (args:List Value)(H:Heap):(run Tryz.prog E).call 75 args H=callB Tryz.prog E Tryz.f75 args H:=call_B Tryz.func75 rfl (by decide +kernel) (hE.no _ rfl rfl) args H
theorem tindex_run {H:Heap}{S:Nat→Prop}{v:Value}{l:List ByteArray}(g:InS H S v l)(hl:l.length≤100000)(x:ByteArray):(run Tryz.prog E).call 89 [v,.string x] H=some (.val (.int .i64 (ixV (idxF x 0 l))),H):=by
 suffices key:Gives ((run Tryz.prog E).call 89 [v,.string x] H) fun o H'=>o = .val (.int .i64 (ixV (idxF x 0 l)))∧H'=H by
  obtain⟨o,H',e,rfl,rfl⟩:=key
  exact e
 obtain⟨b,cap,rfl⟩:=g.slice
 rw[c_tindex hE,callB,bodyOf]
 simp[Tryz.f89]
 refine loop_mid2 (fun t K'=>K'=H∧idxF x 0 l=none) (fun m t K'=>K'=H∧∃ k,k≤l.length∧m=l.length - k∧rd t 8 = .int .i64 k∧idxF x 0 l=idxF x k (l.drop k)) l.length ?_ ?_ ?_
 · exact⟨rfl,0,Nat.zero_le _,by simp,by simp,by simp⟩
 · rintro m t _ hk ⟨rfl,k,hkl,rfl,g8,hf⟩
   have ht:t.length=19:=hk.1.trans (by simp[len_Bs])
   have hh:=hk.all [0,1,7] (by decide +kernel)
   simp at hh
   obtain⟨u0,u1,u7⟩:=hh
   have w1:IntKind.i64.wrap ((k:Int)+1)=(k:Int)+1:=wrap64 _ (by omega) (by omega)
   rcases Nat.lt_or_ge k l.length with hlt | hge
   · obtain⟨id,tl,cap',cs,e1,hrow,hk1,hc1⟩:=g.at hlt
     cases e1
     rw[List.drop_eq_getElem_cons hlt,idxF]at hf
     generalize l[k]=y at *
     by_cases hy:y=x
     · rw[if_pos hy]at hf
       rw[hf]
       simp[ht,u0,u1,u7,g8,hlt,hrow,hk1,hc1,hy,ixV]
     · rw[if_neg hy]at hf
       simp[ht,u0,u1,u7,g8,hlt,hrow,hk1,hc1,show ¬x=y from fun e=>hy e.symm,w1]
       exact⟨l.length - (k+1),by omega,k+1,by omega,rfl,by simp[ht],hf⟩
   · simp[ht,u0,u1,u7,g8,show ¬k<l.length by omega]
     rw[hf,List.drop_eq_nil_of_le hge,idxF]
 · rintro t _ hk ⟨rfl,hf⟩
   have ht:t.length=19:=hk.1.trans (by simp[len_Bs])
   rw[hf]
   simp[ht,ixV]
theorem tcontains_run {H:Heap}{S:Nat→Prop}{v:Value}{l:List ByteArray}(g:InS H S v l)(hl:l.length≤100000)(x:ByteArray):(run Tryz.prog E).call 75 [v,.string x] H=some (.val (.bool (hasP l x)),H):=by
 suffices key:Gives ((run Tryz.prog E).call 75 [v,.string x] H) fun o H'=>o = .val (.bool (hasP l x))∧H'=H by
  obtain⟨o,H',e,rfl,rfl⟩:=key
  exact e
 have e:=tindex_run hE g hl x
 have hh:=idx_has x 0 l
 obtain⟨b,cap,rfl⟩:=g.slice
 rw[c_tcontains hE,callB,bodyOf]
 simp[Tryz.f75,e]
 rw[← hh]
 cases idxF x 0 l with
 | none=>simp[ixV]
 | some n=>simp[ixV]
variable {H0:Heap} {tid cid:Nat} {v:Value} {c:At} {col:Nat→Nat} {nid pid rid:Nat} {v1 v2 v3 v4 v5:Value} {T:Tab} (hT:RTab H0 col tid nid pid rid v1 v2 v3 v4 v5 T) {R:RT} (ha:Scope.Agree T R) (hok:TOK T) (hgd:RGood R)
include hT ha hok hgd
theorem tvar_run {H:Heap}(h:CT H0 H tid cid c v)(x:ByteArray)(a:Int)(arr:Bool):∃ H',(run Tryz.prog E).call 54 [.pointer (some ⟨cid,0,none⟩),.string x,.int .i64 a,.bool arr] H=some (outF (varB R c x a arr),H')∧Same (fun _=>False) H H':=by
 suffices key:Gives ((run Tryz.prog E).call 54 [.pointer (some ⟨cid,0,none⟩),.string x,.int .i64 a,.bool arr] H) fun o H'=>o=outF (varB R c x a arr)∧Same (fun _=>False) H H' by
  obtain⟨o,H',e,rfl,k⟩:=key
  exact⟨H',e,k⟩
 obtain⟨K1,e1,k1⟩:=tmeans_run hE hT ha hok h x
 have kd := @RGood.kind _ hgd x
 have hv:varB R c x a arr=(if (meansP R c.p x).2=0 then some (18,a)else if (meansP R c.p x).2 = -1∧arr=false then none else if ((meansP R c.p x).2≠3∧(meansP R c.p x).2≠4)∨decide (0<(meansP R c.p x).1.size)≠arr then some (19,a)else if (meansP R c.p x).2=3∧hasP c.ins x=false then some (22,a)else if c.cond≠ByteArray.empty∧c.cond≠x then some (23,a)else none):=by
  unfold varB meansP
  by_cases hl:isLoc R c.p x=true
  · rw[if_pos hl,if_pos hl]
    cases arr<;>simp
  · rw[if_neg hl,if_neg hl]
    cases hg:glob R x with
    | some m =>
     have:=kd hg
     simp only
     rw[if_neg (show ¬m.kind=0 by omega),if_neg (show ¬(m.kind = -1∧arr=false) by omega)]
     have:clsP m.kind≠3↔(m.kind≠3∧m.kind≠4):=by unfold clsP;split<;>omega
     simp only[this]
    | none =>
     simp only
     by_cases hp:isPrc R x=true
     · rw[if_pos hp,if_pos hp]
       simp
     · rw[if_neg hp,if_neg hp]
       simp
 rw[hv]
 generalize meansP R c.p x=M at *
 obtain⟨⟨mk,mi,ms⟩,ki⟩:=M
 have gm2:(K1.push (.row true 0 1 [.int .i64 mk,.int .i64 mi,.int .i64 ms])).get K1.n = .row true 0 1 [.int .i64 mk,.int .i64 mi,.int .i64 ms]:=Heap.get_push_self _ _
 have k2:Same (fun _=>False) H (K1.push (.row true 0 1 [.int .i64 mk,.int .i64 mi,.int .i64 ms])):=k1.then_push _
 simp only[Nm.v]at e1 ⊢
 obtain⟨b,cap,rfl⟩:=h.gi.slice
 rw[c_tvar hE,callB,bodyOf]
 simp[Tryz.f54,e1]
 generalize K1.push (.row true 0 1 [.int .i64 mk,.int .i64 mi,.int .i64 ms])=K2 at *
 have h2:=h.keep k2
 have g2:=h2.obj
 simp only[tk4]at g2
 have eh:=tcontains_run hE h2.gi h.il x
 have e18:=tfail_run hE 18 a K2
 have e19:=tfail_run hE 19 a K2
 have e22:=tfail_run hE 22 a K2
 have e23:=tfail_run hE 23 a K2
 by_cases c0:ki=0
 · simp[c0,e18,outF]
   exact k2
 by_cases c1:ki = -1
 · subst c1
   cases arr with
   | false=>simp[outF];exact k2
   | true=>simp[e19,outF];exact k2
 by_cases c3:ki=3
 · subst c3
   by_cases cs:decide (0<ms)=arr
   · subst cs
     simp[gm2]
     by_cases ci:hasP c.ins x=true
     · simp[g2,eh,ci,isEmpty_eq']
       by_cases cw:c.cond=ByteArray.empty
       · simp[cw,outF];exact k2
       · by_cases cx:c.cond=x
         · simp[cw,g2,cx,show ¬x=ByteArray.empty from cx ▸ cw,outF];exact k2
         · simp[cw,g2,cx,e23,outF];exact k2
     · simp[g2,eh,ci,e22,outF];exact k2
   · have cs':(decide (0<ms) != arr)=true:=by simpa using cs
     simp[gm2,cs,cs',e19,outF]
     exact k2
 by_cases c4:ki=4
 · subst c4
   by_cases cs:decide (0<ms)=arr
   · subst cs
     simp[gm2,g2,isEmpty_eq']
     by_cases cw:c.cond=ByteArray.empty
     · simp[cw,outF];exact k2
     · by_cases cx:c.cond=x
       · simp[cw,g2,cx,show ¬x=ByteArray.empty from cx ▸ cw,outF];exact k2
       · simp[cw,g2,cx,e23,outF];exact k2
   · have cs':(decide (0<ms) != arr)=true:=by simpa using cs
     simp[gm2,cs,cs',e19,outF]
     exact k2
 · simp[c0,c1,c3,c4,e19,outF]
   exact k2
end
def LX (H:Heap)(v:Value)(l:List Ex):Prop:=(v = .slice none 0 0∧l=[])∨∃ (S:Nat→Prop) (id tl:Nat) (cs:List Value),v = .slice (some ⟨id,0,none⟩) l.length l.length∧H.get id = .row true tl 6 cs∧REs H S l cs
theorem LX.slice {H:Heap}{v:Value}{l:List Ex}(h:LX H v l):∃ b,v = .slice b l.length l.length:=by
 rcases h with⟨rfl,rfl⟩ | ⟨S,id,tl,cs,rfl,_⟩
 · exact⟨_,rfl⟩
 · exact⟨_,rfl⟩
theorem LX.at {H:Heap}{v:Value}{l:List Ex}(h:LX H v l){k:Nat}(hk:k<l.length):∃ (S:Nat→Prop)(id tl:Nat)(cs:List Value),v = .slice (some ⟨id,0,none⟩) l.length l.length∧id<H.n∧H.get id = .row true tl 6 cs∧RE H S l[k] ((cs.drop (k * 6)).take 6)∧cs.length=l.length * 6∧k * 6+6≤l.length * 6:=by
 rcases h with⟨rfl,rfl⟩ | ⟨S,id,tl,cs,rfl,hg,hs⟩
 · cases hk
 · have hs':=repEx_L.2 hs
   have:=repEx.L_get k hk hs'
   have hl:=repEx.L_len hs'
   simp only[repEx]at this hl
   exact⟨S,id,tl,cs,rfl,Heap.lt_of_get hg (by simp),hg,this,hl,by omega⟩
theorem LX.of {H:Heap}{S:Nat→Prop}{v:Value}{l:List Ex}(h:repEx.G H S v l):LX H v l:=by
 rcases h with h | ⟨id,tl,cs,h1,_,_,h4,h5⟩
 · exact .inl h
 · exact .inr ⟨_,id,tl,cs,h1,h4,repEx_L.1 h5⟩
def outX (f:Option Flt)(n:Int):Out:=match f with
 | none => .val (.int .i64 n)
 | some q => .pan (fltV q)
def TEx (E:Hooks)(H0:Heap)(tid cid:Nat)(R:RT)(x:Ex):Prop:=∀ {H:Heap} {c:At} {v:Value} {cs:List Value} {S:Nat→Prop},CT H0 H tid cid c v→RE H0 S x cs →
 ∃ H',(run Tryz.prog E).call 24 [.pointer (some ⟨cid,0,none⟩),.agg ⟨cs⟩] H=some (outX (exB R c x) (tyP x),H')∧Same (fun _=>False) H H'
def TwlI (H:Heap)(R:RT)(c:At)(k:Int)(l:List Ex)(m:Nat)(t:List Value)(K:Heap):Prop :=
 ∃ i:Nat,i≤l.length∧m=l.length - i∧rd t 10 = .int .i64 i∧Same (fun _=>False) H K∧wantB R c k (l.drop i)=wantB R c k l
section
variable {E:Hooks} (hE:Plain E)
include hE
theorem c_twant (args:List Value)(H:Heap):(run Tryz.prog E).call 55 args H=callB Tryz.prog E Tryz.f55 args H:=call_B Tryz.func55 rfl (by decide +kernel) (hE.no _ rfl rfl) args H
theorem c_texpr (args:List Value)(H:Heap):(run Tryz.prog E).call 24 args H=callB Tryz.prog E Tryz.f24 args H:=call_B Tryz.func24 rfl (by decide +kernel) (hE.no _ rfl rfl) args H
variable {H0:Heap} {tid cid:Nat} {R:RT}
theorem twant_of {H:Heap}{c:At}{v:Value}(h:CT H0 H tid cid c v)(k:Int){w:Value}{l:List Ex}(gl:LX H0 w l)(hl:l.length≤100000)(hm:∀ x∈l,TEx E H0 tid cid R x) :
  ∃ H',(run Tryz.prog E).call 55 [.pointer (some ⟨cid,0,none⟩),.int .i64 k,w] H=some (outF (wantB R c k l),H')∧Same (fun _=>False) H H':=by
 suffices key:Gives ((run Tryz.prog E).call 55 [.pointer (some ⟨cid,0,none⟩),.int .i64 k,w] H) fun o H'=>o=outF (wantB R c k l)∧Same (fun _=>False) H H' by
  obtain⟨o,H',e,rfl,k⟩:=key
  exact⟨H',e,k⟩
 obtain⟨b,rfl⟩:=gl.slice
 rw[c_twant hE,callB,bodyOf]
 simp[Tryz.f55]
 refine loop_wp (TwlI H R c k l) l.length ?_ ?_
 · exact⟨0,Nat.zero_le _,by simp,by simp,Same.refl _ _,by simp⟩
 · rintro m t K hkk ⟨i,hil,rfl,g10,kK,hg⟩
   have ht:t.length=23:=hkk.1.trans (by simp[len_Bs])
   have hh:=hkk.all [0,1,8,9] (by decide +kernel)
   simp at hh
   obtain⟨u0,u1,u8,u9⟩:=hh
   have w1:IntKind.i64.wrap ((i:Int)+1)=(i:Int)+1:=wrap64 _ (by omega) (by omega)
   rcases Nat.lt_or_ge i l.length with hlt | hge
   · obtain⟨S,id,tl,cs,e1,hid,hrow,hget,hcl,hle⟩:=gl.at hlt
     cases e1
     rw[List.drop_eq_getElem_cons hlt,wantB]at hg
     have hK:=h.keep kK
     have hrK:=hK.kp.at hrow (by simp) (by omega)
     have hx:=fun {H:Heap} (q:CT H0 H tid cid c v)=>hm _ (List.getElem_mem hlt) q hget
     generalize l[i]=x at *
     obtain⟨kind,at_,num,op,name,sub⟩:=x
     have six:=hget
     simp only[RE]at six
     obtain⟨y,hy,hsub⟩:=six
     have hyw:isTuple y=false∧y.cells.toList=[y]:=by rcases hsub with⟨rfl,_⟩ | ⟨id,tl,cs',rfl,_⟩<;>exact⟨rfl,rfl⟩
     have kq:Same (fun _=>False) K (K.push (.row true 0 1 [.int .i64 kind,.int .i64 at_,.int .i64 num,.int .i64 op,.string name,y])):=Same.push _ _ _
     obtain⟨K2,e2,k2⟩:=hx (hK.keep kq)
     rw[hy]at e2
     have g7:(K.push (.row true 0 1 [.int .i64 kind,.int .i64 at_,.int .i64 num,.int .i64 op,.string name,y])).get K.n = .row true 0 1 [.int .i64 kind,.int .i64 at_,.int .i64 num,.int .i64 op,.string name,y]:=Heap.get_push_self _ _
     have g72:=k2.at g7 (by simp) (fun h=>h)
     have kk:=kK.trans (kq.trans k2)
     simp[ht,u0,u1,u8,u9,g10,hlt,hrK,hcl,hle,hy,hyw]
     generalize K.push (.row true 0 1 [.int .i64 kind,.int .i64 at_,.int .i64 num,.int .i64 op,.string name,y])=Kp at *
     cases hxb:exB R c (.mk kind at_ num op name sub)with
     | some q =>
      rw[hxb]at e2 hg
      simp only[outX]at e2
      simp[ht,u0,u1,u8,u9,g10,g7,e2]
      rw[← hg]
      exact⟨rfl,kk⟩
     | none =>
      rw[hxb]at e2 hg
      simp only[outX]at e2
      by_cases ct:tyP (.mk kind at_ num op name sub)=k
      · simp[ht,u0,u1,u8,u9,g10,g7,e2,ct,w1]
        refine⟨l.length - (i+1),by omega,i+1,by omega,rfl,by simp[ht],kk,?_⟩
        rw[← hg]
        simp[typB,ct]
      · have ef:=tfail_run hE 21 at_ K2
        simp[ht,u0,u1,u8,u9,g10,g7,e2,ct,g72,ef]
        rw[← hg]
        simp[typB,ct,outF,exAt]
        exact kk
   · have:i=l.length:=by omega
     subst this
     simp[wantB]at hg
     simp[ht,u0,u1,u8,u9,g10]
     rw[← hg];exact⟨rfl,kK⟩
variable {v:Value} {c:At} {col:Nat→Nat} {nid pid rid:Nat} {v1 v2 v3 v4 v5:Value} {T:Tab} (hT:RTab H0 col tid nid pid rid v1 v2 v3 v4 v5 T) (ha:Scope.Agree T R) (hok:TOK T) (hgd:RGood R)
include hT ha hok hgd
theorem texpr_run:∀ (n:Nat)(x:Ex),SizeOf.sizeOf x<n→WFx x→TEx E H0 tid cid R x:=by
 intro n
 induction n with
 | zero=>intro x hx;exact absurd hx (Nat.not_lt_zero _)
 | succ n ih =>
 intro x hx hwf H c v cs S h hc
 suffices key:Gives ((run Tryz.prog E).call 24 [.pointer (some ⟨cid,0,none⟩),.agg ⟨cs⟩] H) fun o H'=>o=outX (exB R c x) (tyP x)∧Same (fun _=>False) H H' by
  obtain⟨o,H',e,rfl,k⟩:=key
  exact⟨H',e,k⟩
 obtain⟨kind,at_,num,op,name,sub⟩:=x
 simp only[RE]at hc
 obtain⟨w,rfl,hsub⟩:=hc
 have lx:LX H0 w sub:=by
  rcases hsub with h | ⟨id,tl,cs',h1,_,h4,h5⟩
  · exact .inl h
  · exact .inr ⟨S,id,tl,cs',h1,h4,h5⟩
 clear hsub
 obtain⟨b,rfl⟩:=lx.slice
 simp only[WFx]at hwf
 obtain⟨hshape,_,_,hsubs⟩:=hwf
 have kp:Same (fun _=>False) H (H.push (.row true 0 1 [.int .i64 kind,.int .i64 at_,.int .i64 num,.int .i64 op,.string name,.slice b sub.length sub.length])):=Same.push _ _ _
 have h1:=h.keep kp
 have g3:(H.push (.row true 0 1 [.int .i64 kind,.int .i64 at_,.int .i64 num,.int .i64 op,.string name,.slice b sub.length sub.length])).get H.n = .row true 0 1 [.int .i64 kind,.int .i64 at_,.int .i64 num,.int .i64 op,.string name,.slice b sub.length sub.length]:=Heap.get_push_self _ _
 generalize hH1:H.push (.row true 0 1 [.int .i64 kind,.int .i64 at_,.int .i64 num,.int .i64 op,.string name,.slice b sub.length sub.length])=H1 at *
 have mem:∀ y∈sub,TEx E H0 tid cid R y:=fun y hy=>by
  have:=List.sizeOf_lt_of_mem hy
  simp only[Ex.mk.sizeOf_spec]at hx
  intro H c v cs S a b
  exact ih y (by omega) (hsubs.mem y hy) a b
 rw[c_texpr hE,callB,bodyOf]
 simp only[exB,tyP]
 rcases hshape with⟨rfl,_⟩ | ⟨rfl,_⟩ | ⟨rfl,_⟩ | ⟨rfl,hs,_⟩ | ⟨rfl,hs,_,hop⟩ | ⟨rfl,hs,_,hop⟩
 · simp[Tryz.f24,hH1,g3,outX]
   exact kp
 · simp[Tryz.f24,hH1,g3,outX]
   exact kp
 · obtain⟨K1,e1,k1⟩:=tvar_run hE hT ha hok hgd h1 name at_ false
   cases hv:varB R c name at_ false with
   | none =>
    rw[hv]at e1
    simp only[outF]at e1
    simp[Tryz.f24,hH1,g3,e1,outX,hv]
    exact kp.trans k1
   | some q =>
    rw[hv]at e1
    simp only[outF]at e1
    simp[Tryz.f24,hH1,g3,e1,outX,hv]
    exact kp.trans k1
 · obtain⟨K1,e1,k1⟩:=tvar_run hE hT ha hok hgd h1 name at_ true
   obtain⟨K2,e2,k2⟩:=twant_of hE (h1.keep k1) 1 lx (by omega) mem
   have g31:=k1.at g3 (by simp) (fun h=>h)
   cases hv:varB R c name at_ true with
   | none =>
    rw[hv]at e1
    simp only[outF]at e1
    cases hw:wantB R c 1 sub with
    | none =>
     rw[hw]at e2
     simp only[outF]at e2
     simp[Tryz.f24,hH1,g3,e1,g31,e2,outX,hv,hw]
     exact kp.trans (k1.trans k2)
    | some q =>
     rw[hw]at e2
     simp only[outF]at e2
     simp[Tryz.f24,hH1,g3,e1,g31,e2,outX,hv,hw]
     exact kp.trans (k1.trans k2)
   | some q =>
    rw[hv]at e1
    simp only[outF]at e1
    simp[Tryz.f24,hH1,g3,e1,outX,hv]
    exact kp.trans k1
 · have hop':9≤op∧op≤23:=by
    have hb:=hop.1
    omega
   have hsz:sub.length≤100000:=by omega
   have hty:(op=23∧True∧True∧True∧True)∨(op=21∧True∧True∧True∧True)∨(op=22∧True∧True∧True∧True)∨(15≤op∧op≤20∧op≠23∧op≠21∧op≠22)∨(¬15≤op∧True∧op≠23∧op≠21∧op≠22):=by
    simp only[true_and,and_true]
    omega
   rcases hty with⟨rfl,_,o1,o2,o3⟩ | ⟨rfl,_,o1,o2,o3⟩ | ⟨rfl,_,o1,o2,o3⟩ | ⟨o4,o5,o1,o2,o3⟩ | ⟨o4,o5,o1,o2,o3⟩
   · obtain⟨K1,e1,k1⟩:=twant_of hE h1 2 lx hsz mem
     cases hw:wantB R c 2 sub with
     | none =>
      rw[hw]at e1
      simp only[outF]at e1
      simp[Tryz.f24,hH1,g3,e1,outX,opTy,hw]
      exact kp.trans k1
     | some q =>
      rw[hw]at e1
      simp only[outF]at e1
      simp[Tryz.f24,hH1,g3,e1,outX,opTy,hw]
      exact kp.trans k1
   · obtain⟨K1,e1,k1⟩:=twant_of hE h1 2 lx hsz mem
     cases hw:wantB R c 2 sub with
     | none =>
      rw[hw]at e1
      simp only[outF]at e1
      simp[Tryz.f24,hH1,g3,e1,outX,opTy,hw]
      exact kp.trans k1
     | some q =>
      rw[hw]at e1
      simp only[outF]at e1
      simp[Tryz.f24,hH1,g3,e1,outX,opTy,hw]
      exact kp.trans k1
   · obtain⟨K1,e1,k1⟩:=twant_of hE h1 2 lx hsz mem
     cases hw:wantB R c 2 sub with
     | none =>
      rw[hw]at e1
      simp only[outF]at e1
      simp[Tryz.f24,hH1,g3,e1,outX,opTy,hw]
      exact kp.trans k1
     | some q =>
      rw[hw]at e1
      simp only[outF]at e1
      simp[Tryz.f24,hH1,g3,e1,outX,opTy,hw]
      exact kp.trans k1
   · obtain⟨K1,e1,k1⟩:=twant_of hE h1 1 lx hsz mem
     have g31:=k1.at g3 (by simp) (fun h=>h)
     have o6:op≤23:=hop'.2
     have ho:opTy op=1:=by unfold opTy;rw[if_neg (by omega)]
     cases hw:wantB R c 1 sub with
     | none =>
      rw[hw]at e1
      simp only[outF]at e1
      simp[Tryz.f24,hH1,g3,e1,outX,o1,o2,o3,o4,o5,o6,g31,ho,hw]
      exact kp.trans k1
     | some q =>
      rw[hw]at e1
      simp only[outF]at e1
      simp[Tryz.f24,hH1,g3,e1,outX,o1,o2,o3,ho,hw]
      exact kp.trans k1
   · obtain⟨K1,e1,k1⟩:=twant_of hE h1 1 lx hsz mem
     have g31:=k1.at g3 (by simp) (fun h=>h)
     have ho:opTy op=1:=by unfold opTy;rw[if_neg (by omega)]
     cases hw:wantB R c 1 sub with
     | none =>
      rw[hw]at e1
      simp only[outF]at e1
      simp[Tryz.f24,hH1,g3,e1,outX,o1,o2,o3,o4,g31,ho,hw]
      exact kp.trans k1
     | some q =>
      rw[hw]at e1
      simp only[outF]at e1
      simp[Tryz.f24,hH1,g3,e1,outX,o1,o2,o3,ho,hw]
      exact kp.trans k1
 · have hop':9≤op∧op≤23:=by
    have hb:=hop.1
    rcases hb with hb | hb<;>omega
   have hsz:sub.length≤100000:=by omega
   have hty:(op=23∧True∧True∧True∧True)∨(op=21∧True∧True∧True∧True)∨(op=22∧True∧True∧True∧True)∨(15≤op∧op≤20∧op≠23∧op≠21∧op≠22)∨(¬15≤op∧True∧op≠23∧op≠21∧op≠22):=by
    simp only[true_and,and_true]
    omega
   rcases hty with⟨rfl,_,o1,o2,o3⟩ | ⟨rfl,_,o1,o2,o3⟩ | ⟨rfl,_,o1,o2,o3⟩ | ⟨o4,o5,o1,o2,o3⟩ | ⟨o4,o5,o1,o2,o3⟩
   · obtain⟨K1,e1,k1⟩:=twant_of hE h1 2 lx hsz mem
     cases hw:wantB R c 2 sub with
     | none =>
      rw[hw]at e1
      simp only[outF]at e1
      simp[Tryz.f24,hH1,g3,e1,outX,opTy,hw]
      exact kp.trans k1
     | some q =>
      rw[hw]at e1
      simp only[outF]at e1
      simp[Tryz.f24,hH1,g3,e1,outX,opTy,hw]
      exact kp.trans k1
   · obtain⟨K1,e1,k1⟩:=twant_of hE h1 2 lx hsz mem
     cases hw:wantB R c 2 sub with
     | none =>
      rw[hw]at e1
      simp only[outF]at e1
      simp[Tryz.f24,hH1,g3,e1,outX,opTy,hw]
      exact kp.trans k1
     | some q =>
      rw[hw]at e1
      simp only[outF]at e1
      simp[Tryz.f24,hH1,g3,e1,outX,opTy,hw]
      exact kp.trans k1
   · obtain⟨K1,e1,k1⟩:=twant_of hE h1 2 lx hsz mem
     cases hw:wantB R c 2 sub with
     | none =>
      rw[hw]at e1
      simp only[outF]at e1
      simp[Tryz.f24,hH1,g3,e1,outX,opTy,hw]
      exact kp.trans k1
     | some q =>
      rw[hw]at e1
      simp only[outF]at e1
      simp[Tryz.f24,hH1,g3,e1,outX,opTy,hw]
      exact kp.trans k1
   · obtain⟨K1,e1,k1⟩:=twant_of hE h1 1 lx hsz mem
     have g31:=k1.at g3 (by simp) (fun h=>h)
     have o6:op≤23:=hop'.2
     have ho:opTy op=1:=by unfold opTy;rw[if_neg (by omega)]
     cases hw:wantB R c 1 sub with
     | none =>
      rw[hw]at e1
      simp only[outF]at e1
      simp[Tryz.f24,hH1,g3,e1,outX,o1,o2,o3,o4,o5,o6,g31,ho,hw]
      exact kp.trans k1
     | some q =>
      rw[hw]at e1
      simp only[outF]at e1
      simp[Tryz.f24,hH1,g3,e1,outX,o1,o2,o3,ho,hw]
      exact kp.trans k1
   · obtain⟨K1,e1,k1⟩:=twant_of hE h1 1 lx hsz mem
     have g31:=k1.at g3 (by simp) (fun h=>h)
     have ho:opTy op=1:=by unfold opTy;rw[if_neg (by omega)]
     cases hw:wantB R c 1 sub with
     | none =>
      rw[hw]at e1
      simp only[outF]at e1
      simp[Tryz.f24,hH1,g3,e1,outX,o1,o2,o3,o4,g31,ho,hw]
      exact kp.trans k1
     | some q =>
      rw[hw]at e1
      simp only[outF]at e1
      simp[Tryz.f24,hH1,g3,e1,outX,o1,o2,o3,ho,hw]
      exact kp.trans k1
end
theorem pl_tcall:planOf Tryz.prog (drawN Tryz.f70 0)=some [some (0,1),some (0,1),none,none,none,none,none,none,none,none]:=by decide +kernel
theorem must_prc {R:RT}(hgd:RGood R){p:Int}{x:ByteArray}{a:Int}(h:mustB R p x a (-2)=none):(meansP R p x).1=⟨0,prcOf R x,0⟩:=by
 unfold mustB at h
 unfold meansP
 by_cases hl:isLoc R p x=true
 · rw[if_pos hl]at h;cases h
 · rw[if_neg hl]at h ⊢
   cases hg:glob R x with
   | some m =>
    have:=hgd.kind hg
    rw[hg]at h
    simp only at h
    rw[if_neg (by omega)]at h
    cases h
   | none =>
    rw[hg]at h
    simp only at h ⊢
    by_cases hp:isPrc R x=true
    · rw[if_pos hp]
    · rw[if_neg hp]at h;cases h
section
variable {E:Hooks} (hE:Plain E)
include hE
theorem c_tcall (args:List Value)(H:Heap):(run Tryz.prog E).call 70 args H=callB Tryz.prog E Tryz.f70 args H:=call_B Tryz.func70 rfl (by decide +kernel) (hE.no _ rfl rfl) args H
variable {H0:Heap} {tid cid:Nat} {R:RT} {v:Value} {c:At} {col:Nat→Nat} {nid pid rid:Nat} {v1 v2 v3 v4 v5:Value} {T:Tab} (hT:RTab H0 col tid nid pid rid v1 v2 v3 v4 v5 T) (ha:Scope.Agree T R) (hok:TOK T) (hgd:RGood R)
include hT ha hok hgd
theorem twant_run {H:Heap}(h:CT H0 H tid cid c v)(k:Int){w:Value}{l:List Ex}(gl:LX H0 w l)(hl:l.length≤100000)(hwf:WFxs l) :
  ∃ H',(run Tryz.prog E).call 55 [.pointer (some ⟨cid,0,none⟩),.int .i64 k,w] H=some (outF (wantB R c k l),H')∧Same (fun _=>False) H H' :=
 twant_of hE h k gl hl fun y hy=>by
  intro H c v cs S a b
  exact texpr_run hE hT ha hok hgd _ y (Nat.lt_succ_self _) (hwf.mem y hy) a b
theorem tcall_run {H:Heap}(h:CT H0 H tid cid c v)(x:ByteArray)(a:Int){w:Value}{l:List Ex}(gl:LX H0 w l)(hl:l.length≤100000)(hwf:WFxs l) :
  ∃ H',(run Tryz.prog E).call 70 [.pointer (some ⟨cid,0,none⟩),.string x,.int .i64 a,w] H=some (outF (callT R c x a l),H')∧Same (fun _=>False) H H':=by
 suffices key:Gives ((run Tryz.prog E).call 70 [.pointer (some ⟨cid,0,none⟩),.string x,.int .i64 a,w] H) fun o H'=>o=outF (callT R c x a l)∧Same (fun _=>False) H H' by
  obtain⟨o,H',e,rfl,k⟩:=key
  exact⟨H',e,k⟩
 obtain⟨o1,K1,e1,k1,ho1⟩:=tmust_run hE hT ha hok hgd h x a (-2) (.inl rfl)
 subst ho1
 obtain⟨b,rfl⟩:=gl.slice
 unfold callT
 rw[c_tcall hE,callB,bodyOf]
 cases hm:mustB R c.p x a (-2)with
 | some q =>
  rw[hm]at e1
  simp[Tryz.f70,e1,outF]
  exact k1
 | none =>
  rw[hm]at e1
  rw[must_prc hgd hm]at e1
  simp only[Nm.v]at e1
  have kq:Same (fun _=>False) H (K1.push (.row true 0 1 [.int .i64 0,.int .i64 (prcOf R x),.int .i64 0])):=k1.then_push _
  have g8:(K1.push (.row true 0 1 [.int .i64 0,.int .i64 (prcOf R x),.int .i64 0])).get K1.n = .row true 0 1 [.int .i64 0,.int .i64 (prcOf R x),.int .i64 0]:=Heap.get_push_self _ _
  simp[Tryz.f70,e1]
  refine region_plan (by exact pl_tcall) ?_
  generalize K1.push (.row true 0 1 [.int .i64 0,.int .i64 (prcOf R x),.int .i64 0])=K2 at *
  have h2:=h.keep kq
  have g2:=h2.obj
  simp only[tk4]at g2
  obtain⟨K3,e3,k3⟩:=params_run hE (CT.tab hT h2) (prcOf R x)
  rw[ha.params]at e3
  simp[g2,g8,e3]
  by_cases hn:(l.length:Int)=rheadAt R (prcOf R x)
  · obtain⟨K4,e4,k4⟩:=twant_run hE hT ha hok hgd (h2.keep k3) 1 gl hl hwf
    have kk:=kq.trans (k3.trans k4)
    cases hw:wantB R c 1 l with
    | none =>
     rw[hw]at e4
     simp only[outF]at e4
     simp[hn,e4,outF]
     exact kk
    | some q =>
     rw[hw]at e4
     simp only[outF]at e4
     simp[hn,e4,outF]
     exact kk
  · have ef:=tfail_run hE 20 a K3
    simp[hn,ef,outF]
    exact kq.trans k3
end
def fc (f:Option Flt):Int:=match f with
 | some q=>q.1
 | none=>0
def fa (f:Option Flt):Int:=match f with
 | some q=>q.2
 | none=>0
def ck6 (rtid:Nat)(p:Int)(v:Value)(cond:ByteArray)(c a:Int):List Value:=[.pointer (some ⟨rtid,0,none⟩),.int .i64 p,v,.string cond,.int .i64 c,.int .i64 a]
structure CR (H0 H:Heap)(rtid cid:Nat)(c:At)(v:Value)(f:Option Flt):Prop where
 kp:Same (fun i=>H0.n≤i) H0 H
 hc:H0.n≤cid
 obj:H.get cid = .row true 0 1 (ck6 rtid c.p v c.cond (fc f) (fa f))
 gi:repStr.G H (fun i=>H0.n≤i∧i≠cid) v c.ins
 fk:FOK f
 il:c.ins.length≤100000
theorem CR.lt {H0 H:Heap}{rtid cid:Nat}{c:At}{v:Value}{f:Option Flt}(h:CR H0 H rtid cid c v f):cid<H.n:=Heap.lt_of_get h.obj (by simp)
theorem CR.keep {H0 H H':Heap}{rtid cid:Nat}{c:At}{v:Value}{f:Option Flt}(h:CR H0 H rtid cid c v f)(k:Same (fun _=>False) H H'):CR H0 H' rtid cid c v f :=
 ⟨h.kp.then k fun _ h=>h.elim,h.hc,k.at h.obj (by simp) fun h=>h,repStr.G_move k (fun i hi _=>⟨hi,fun h=>h⟩) h.gi,h.fk,h.il⟩
theorem CR.turn {H0 H H':Heap}{rtid cid:Nat}{c c':At}{v:Value}{f f':Option Flt}(h:CR H0 H rtid cid c v f)(k:Same (fun i=>i=cid) H H')(hp:c'.ins=c.ins)(ho:H'.get cid = .row true 0 1 (ck6 rtid c'.p v c'.cond (fc f') (fa f')))(hf:FOK f'):CR H0 H' rtid cid c' v f' :=
 ⟨h.kp.then k fun i e => .inl (by rw[e];exact h.hc),h.hc,ho,by rw[hp];exact repStr.G_move k (fun i hi _=>⟨hi,hi.2⟩) h.gi,hf,by rw[hp];exact h.il⟩
def RetC (H0 H:Heap)(rtid cid:Nat)(c:At)(v:Value)(f:Option Flt)(H':Heap):Prop:=Same (fun i=>i=cid) H H'∧CR H0 H' rtid cid c v f
theorem RetC.before {H0 H A H':Heap}{rtid cid:Nat}{c:At}{v:Value}{f:Option Flt}(h:RetC H0 A rtid cid c v f H')(k:Same (fun _=>False) H A):RetC H0 H rtid cid c v f H':=⟨k.none.trans h.1,h.2⟩
section
variable {E:Hooks} (hE:Plain E)
include hE
section
variable {H0:Heap} {rtid cid:Nat} {v:Value} {c:At} {f:Option Flt}
variable {col:Nat→Nat} {v1 v2 v3 v4 v5 v6:Value} {R:RT} (hR:RRef H0 col rtid v1 v2 v3 v4 v5 v6 R) (hok:ROK R)
include hR hok
omit hE hok in
end
end
section
variable {E:Hooks} (hE:Plain E)
include hE
end
theorem RetC.at {H0 H H':Heap}{rtid cid:Nat}{c:At}{v:Value}{f:Option Flt}(h:RetC H0 H rtid cid c v f H'){i:Nat}{o:AObj}(hg:H.get i=o)(hd:o ≠ .dead)(hi:i≠cid):H'.get i=o:=h.1.at hg hd hi
theorem RetC.then {H0 H A H':Heap}{rtid cid:Nat}{c:At}{v:Value}{f g:Option Flt}(h:RetC H0 H rtid cid c v f A)(k:RetC H0 A rtid cid c v g H'):RetC H0 H rtid cid c v g H':=⟨h.1.trans k.1,k.2⟩
section
variable {E:Hooks} (hE:Plain E)
include hE
variable {H0:Heap} {rtid cid:Nat} {R:RT}
omit hE in
end
section
variable {E:Hooks} (hE:Plain E)
include hE
variable {H0:Heap} {rtid cid:Nat} {v:Value} {c:At} {f:Option Flt} {col:Nat→Nat} {v1 v2 v3 v4 v5 v6:Value} {R:RT} (hR:RRef H0 col rtid v1 v2 v3 v4 v5 v6 R) (hok:ROK R) (hgd:RGood R)
include hR hok hgd
omit hgd in
end
theorem cutA_pre {H:Heap}{id tl:Nat}{cs:List Value}(hg:H.get id = .row true tl 3 cs){n k:Nat}(hk:k≤n):cutA id 0 n n 3 none (some (.int .i64 k)) none H=some (.slice (some ⟨id,0,none⟩) k n,H):=by
 have hk':(k:Int)≤n:=by omega
 cases tl<;>simp[cutA,boundOf,hg,hk,hk']
def anyN (l:List Itm)(x:Itm):Bool:=l.any fun y=>decide (y.name=x.name)
theorem anyN_cons (y:Itm)(l:List Itm)(x:Itm):anyN (y :: l) x=(decide (y.name=x.name) || anyN l x):=rfl
section
variable {E:Hooks} (hE:Plain E)
include hE
theorem c_titem1 (args:List Value)(H:Heap):(run Tryz.prog E).call 53 args H=callB Tryz.prog E Tryz.f53 args H:=call_B Tryz.func53 rfl (by decide +kernel) (hE.no _ rfl rfl) args H
theorem titem1_run {H:Heap}{xid:Nat}{x:Itm}(g:H.get xid = .row true 0 1 [.int .i64 x.at_,.string x.name,.int .i64 x.n])(y:Itm) :
  ∃ H',(run Tryz.prog E).call 53 [.agg ⟨[.int .i64 y.at_,.string y.name,.int .i64 y.n]⟩,.pointer (some ⟨xid,0,none⟩)] H=some (.val (.bool (decide (y.name=x.name))),H')∧Same (fun _=>False) H H':=by
 suffices key:Gives ((run Tryz.prog E).call 53 [.agg ⟨[.int .i64 y.at_,.string y.name,.int .i64 y.n]⟩,.pointer (some ⟨xid,0,none⟩)] H) fun o H'=>o = .val (.bool (decide (y.name=x.name)))∧Same (fun _=>False) H H' by
  obtain⟨o,H',e,rfl,k⟩:=key
  exact⟨H',e,k⟩
 have kp:Same (fun _=>False) H (H.push (.row true 0 1 [.int .i64 y.at_,.string y.name,.int .i64 y.n])):=Same.push _ _ _
 have g1:=kp.at g (by simp) (fun h=>h)
 rw[c_titem1 hE,callB,bodyOf]
 simp[Tryz.f53,g1]
 exact kp
theorem c_tindexf (args:List Value)(H:Heap):(run Tryz.prog E).call 74 args H=callB Tryz.prog E Tryz.f74 args H:=call_B Tryz.func74 rfl (by decide +kernel) (hE.no _ rfl rfl) args H
theorem c_tcontf (args:List Value)(H:Heap):(run Tryz.prog E).call 52 args H=callB Tryz.prog E Tryz.f52 args H:=call_B Tryz.func52 rfl (by decide +kernel) (hE.no _ rfl rfl) args H
theorem tindexf_run {H:Heap}{xid:Nat}{x:Itm}(g:H.get xid = .row true 0 1 [.int .i64 x.at_,.string x.name,.int .i64 x.n]){S:Nat→Prop}{b:Option Addr}{l:List Itm}(gl:repItm.G H S (.slice b l.length l.length) l){n cap:Nat}(hn:n≤l.length)(hl:l.length≤100000) :
  ∃ (r:Int) (H':Heap),(run Tryz.prog E).call 74 [.slice b n cap,.func (.func 53) ⟨[]⟩ ⟨[.pointer (some ⟨xid,0,none⟩)]⟩] H=some (.val (.int .i64 r),H')∧Same (fun _=>False) H H'∧decide (0≤r)=anyN (l.take n) x:=by
 suffices key:Gives ((run Tryz.prog E).call 74 [.slice b n cap,.func (.func 53) ⟨[]⟩ ⟨[.pointer (some ⟨xid,0,none⟩)]⟩] H) fun o H'=>∃ r:Int,o = .val (.int .i64 r)∧Same (fun _=>False) H H'∧decide (0≤r)=anyN (l.take n) x by
  obtain⟨o,H',e,r,rfl,k⟩:=key
  exact⟨r,H',e,k⟩
 rw[c_tindexf hE,callB,bodyOf]
 simp[Tryz.f74]
 refine loop_mid2 (fun t K=>Same (fun _=>False) H K∧(anyN (l.take n) x)=false) (fun m t K=>Same (fun _=>False) H K∧∃ k,k≤n∧m=n - k∧rd t 8 = .int .i64 k∧(anyN (l.take n) x)=anyN ((l.take n).drop k) x) n ?_ ?_ ?_
 · exact⟨Same.refl _ _,0,Nat.zero_le _,by simp,by simp,by simp⟩
 · rintro m t K hk ⟨kK,k,hkn,rfl,g8,hf⟩
   have ht:t.length=19:=hk.1.trans (by simp[len_Bs])
   have hh:=hk.all [0,1,7] (by decide +kernel)
   simp at hh
   obtain⟨u0,u1,u7⟩:=hh
   have w1:IntKind.i64.wrap ((k:Int)+1)=(k:Int)+1:=wrap64 _ (by omega) (by omega)
   rcases Nat.lt_or_ge k n with hlt | hge
   · have hkl:k<l.length:=by omega
     obtain⟨id,tl,cs,e1,_,_,hrow,hcl,hget,hle⟩:=repItm.G_at gl hkl
     cases e1
     simp only[repItm]at hget hcl hrow hle
     have hd:(l.take n).drop k=l[k] :: (l.take n).drop (k+1):=by
      rw[List.drop_eq_getElem_cons (by rw[List.length_take];omega),List.getElem_take]
     rw[hd,anyN_cons]at hf
     have gK:=kK.at g (by simp) (fun h=>h)
     have hrK:=kK.at hrow (by simp) (fun h=>h)
     obtain⟨K2,e2,k2⟩:=titem1_run hE gK l[k]
     have k2':=kK.trans k2
     generalize l[k]=y at *
     by_cases hy:y.name=x.name
     · rw[decide_eq_true hy]at e2 hf
       simp[ht,u0,u1,u7,g8,hlt,hrK,hcl,hle,hget,e2]
       exact⟨k2',by simpa using hf⟩
     · rw[decide_eq_false hy]at e2 hf
       simp[ht,u0,u1,u7,g8,hlt,hrK,hcl,hle,hget,e2,w1]
       exact⟨n - (k+1),by omega,k2',k+1,by omega,rfl,by simp[ht],by simpa using hf⟩
   · have:k=n:=by omega
     subst this
     rw[List.drop_eq_nil_of_le (by rw[List.length_take];omega)]at hf
     simp[ht,u0,u1,u7,g8]
     exact⟨kK,hf⟩
 · rintro t K hk ⟨kK,hf⟩
   have ht:t.length=19:=hk.1.trans (by simp[len_Bs])
   simp[ht]
   exact⟨kK,hf⟩
theorem tcontf_run {H:Heap}{xid:Nat}{x:Itm}(g:H.get xid = .row true 0 1 [.int .i64 x.at_,.string x.name,.int .i64 x.n]){S:Nat→Prop}{b:Option Addr}{l:List Itm}(gl:repItm.G H S (.slice b l.length l.length) l){n cap:Nat}(hn:n≤l.length)(hl:l.length≤100000) :
  ∃ H':Heap,(run Tryz.prog E).call 52 [.slice b n cap,.func (.func 53) ⟨[]⟩ ⟨[.pointer (some ⟨xid,0,none⟩)]⟩] H=some (.val (.bool (anyN (l.take n) x)),H')∧Same (fun _=>False) H H':=by
 suffices key:Gives ((run Tryz.prog E).call 52 [.slice b n cap,.func (.func 53) ⟨[]⟩ ⟨[.pointer (some ⟨xid,0,none⟩)]⟩] H) fun o H'=>o = .val (.bool (anyN (l.take n) x))∧Same (fun _=>False) H H' by
  obtain⟨o,H',e,rfl,k⟩:=key
  exact⟨H',e,k⟩
 obtain⟨r,K,e,k,hr⟩:=tindexf_run hE g gl (cap:=cap) hn hl
 rw[c_tcontf hE,callB,bodyOf]
 rw[← hr]
 simp[Tryz.f52,e]
 exact k
theorem c_titems (args:List Value)(H:Heap):(run Tryz.prog E).call 21 args H=callB Tryz.prog E Tryz.f21 args H:=call_B Tryz.func21 rfl (by decide +kernel) (hE.no _ rfl rfl) args H
variable {H0:Heap} {tid cid:Nat} {R:RT} {v:Value} {c:At} {col:Nat→Nat} {nid pid rid:Nat} {v1 v2 v3 v4 v5:Value} {T:Tab} (hT:RTab H0 col tid nid pid rid v1 v2 v3 v4 v5 T) (ha:Scope.Agree T R) (hok:TOK T) (hgd:RGood R)
include hT ha hok hgd
theorem titems_run {H:Heap}(h:CT H0 H tid cid c v){S:Nat→Prop}{w:Value}{l:List Itm}(gl:repItm.G H0 S w l)(hl:l.length≤100000) :
  ∃ H',(run Tryz.prog E).call 21 [.pointer (some ⟨cid,0,none⟩),w] H=some (outF (itemsB R c.p [] l),H')∧Same (fun _=>False) H H':=by
 suffices key:Gives ((run Tryz.prog E).call 21 [.pointer (some ⟨cid,0,none⟩),w] H) fun o H'=>o=outF (itemsB R c.p [] l)∧Same (fun _=>False) H H' by
  obtain⟨o,H',e,rfl,k⟩:=key
  exact⟨H',e,k⟩
 obtain⟨b,rfl⟩:=repItm.G_slice gl
 rw[c_titems hE,callB,bodyOf]
 simp[Tryz.f21]
 refine loop_wp (fun m t K=>∃ k,k≤l.length∧m=l.length - k∧rd t 8 = .int .i64 k∧Same (fun _=>False) H K∧itemsB R c.p (l.take k) (l.drop k)=itemsB R c.p [] l) l.length ?_ ?_
 · exact⟨0,Nat.zero_le _,by simp,by simp,Same.refl _ _,by simp⟩
 · rintro m t K hkk ⟨k,hkl,rfl,g8,kK,hg⟩
   have ht:t.length=44:=hkk.1.trans (by simp[len_Bs])
   have hh:=hkk.all [0,1,6,7] (by decide +kernel)
   simp at hh
   obtain⟨u0,u1,u6,u7⟩:=hh
   have w1:IntKind.i64.wrap ((k:Int)+1)=(k:Int)+1:=wrap64 _ (by omega) (by omega)
   rcases Nat.lt_or_ge k l.length with hlt | hge
   · obtain⟨id,tl,cs,e1,_,hid,hrow,hcl,hget,hle⟩:=repItm.G_at gl hlt
     cases e1
     simp only[repItm]at hget hcl hrow hle
     rw[List.drop_eq_getElem_cons hlt,itemsB]at hg
     have hx:l[k]? = some l[k]:=List.getElem?_eq_getElem hlt
     have hK:=h.keep kK
     have hrK:=hK.kp.at hrow (by simp) (by omega)
     generalize l[k]=x at *
     have kq:Same (fun _=>False) K (K.push (.row true 0 1 [.int .i64 x.at_,.string x.name,.int .i64 x.n])):=Same.push _ _ _
     have g5:(K.push (.row true 0 1 [.int .i64 x.at_,.string x.name,.int .i64 x.n])).get K.n = .row true 0 1 [.int .i64 x.at_,.string x.name,.int .i64 x.n]:=Heap.get_push_self _ _
     have hitem:itemB R c.p (l.take k) x=(if 6≤k then some (16,x.at_)else none).or ((mustB R c.p x.name x.at_ 1).or ((if anyN (l.take k) x=true then some (17,x.at_)else none).or (if x.n<1∨1000<x.n then some (24,x.at_)else none))):=by
      unfold itemB anyN
      rw[List.length_take,Nat.min_eq_left (by omega)]
     have htk:l.take (k+1)=l.take k++[x]:=by rw[List.take_add_one,hx];rfl
     rw[← htk,hitem]at hg
     simp[ht,u0,u1,u6,u7,g8,hlt,hrK,hcl,hle,hget]
     generalize K.push (.row true 0 1 [.int .i64 x.at_,.string x.name,.int .i64 x.n])=Kp at *
     have kp:=kK.trans kq
     by_cases c6:6≤k
     · have c6':(6:Int)≤(k:Int):=by omega
       have ef:=tfail_run hE 16 x.at_ Kp
       rw[if_pos c6]at hg
       simp[ht,u0,u1,u6,u7,c6',g5,ef]
       rw[← hg]
       exact⟨rfl,kp⟩
     have c6':¬(6:Int)≤(k:Int):=by omega
     rw[if_neg c6,Option.none_or]at hg
     obtain⟨o1,K1,e1,k1,ho1⟩:=tmust_run hE hT ha hok hgd (hK.keep kq) x.name x.at_ 1 (.inr (by decide))
     subst ho1
     cases hm:mustB R c.p x.name x.at_ 1 with
     | some q =>
      rw[hm]at e1 hg
      simp[ht,u0,u1,u6,u7,c6',g5,e1]
      rw[← hg]
      exact⟨rfl,kp.trans k1⟩
     | none =>
      rw[hm,Option.none_or]at hg
      rw[hm]at e1
      have g51:=k1.at g5 (by simp) (fun h=>h)
      have gl1:=repItm.G_move ((hK.keep kq).keep k1).kp (S':=S) (fun i hi hl=>⟨hi,by omega⟩) gl
      obtain⟨K2,e2,k2⟩:=tcontf_run hE g51 gl1 (n:=k) (cap:=l.length) hkl hl
      have g52:=k2.at g51 (by simp) (fun h=>h)
      have k3:=kp.trans (k1.trans k2)
      simp[ht,u0,u1,u6,u7,c6',g5,e1]
      have hr1:=k1.at (kq.at hrK (by simp) (fun h=>h)) (by simp) (fun h=>h)
      rw[cutA_pre hr1 hkl]
      simp[ht,u0,u1,u6,u7,g52,e2]
      by_cases ca:anyN (l.take k) x=true
      · have ef:=tfail_run hE 17 x.at_ K2
        rw[if_pos ca]at hg
        simp[ht,u0,u1,u6,u7,ca,g52,ef]
        rw[← hg]
        exact⟨rfl,k3⟩
      · rw[if_neg ca,Option.none_or]at hg
        by_cases n1:x.n<1
        · have ef:=tfail_run hE 24 x.at_ K2
          rw[if_pos (.inl n1)]at hg
          simp[ht,u0,u1,u6,u7,ca,n1,g52,ef]
          rw[← hg]
          exact⟨rfl,k3⟩
        · by_cases n2:1000<x.n
          · have ef:=tfail_run hE 24 x.at_ K2
            rw[if_pos (.inr n2)]at hg
            simp[ht,u0,u1,u6,u7,ca,n1,n2,g52,ef]
            rw[← hg]
            exact⟨rfl,k3⟩
          · rw[if_neg (by omega),Option.none_or]at hg
            simp[ht,u0,u1,u6,u7,g8,ca,n1,n2,g52,w1]
            exact⟨l.length - (k+1),by omega,k+1,by omega,rfl,by simp[ht],k3,hg⟩
   · have:k=l.length:=by omega
     subst this
     simp[itemsB]at hg
     simp[ht,u0,u1,u6,u7,g8]
     rw[← hg];exact⟨rfl,kK⟩
end
section
variable {E:Hooks} (hE:Plain E)
include hE
theorem c_tbras (args:List Value)(H:Heap):(run Tryz.prog E).call 71 args H=callB Tryz.prog E Tryz.f71 args H:=call_B Tryz.func71 rfl (by decide +kernel) (hE.no _ rfl rfl) args H
variable {H0:Heap} {tid cid:Nat} {R:RT} {v:Value} {c:At} {col:Nat→Nat} {nid pid rid:Nat} {v1 v2 v3 v4 v5:Value} {T:Tab} (hT:RTab H0 col tid nid pid rid v1 v2 v3 v4 v5 T) (ha:Scope.Agree T R) (hok:TOK T) (hgd:RGood R)
include hT ha hok hgd
theorem tbras_run {H:Heap}(h:CT H0 H tid cid c v){S:Nat→Prop}{w:Value}{l:List Bra}(gl:repBra.G H0 S w l)(hl:l.length≤100000)(hsz:∀ q∈l,q.args.length≤100000∧q.claims.length≤100000)(hwf:∀ q∈l,BraOK q) :
  ∃ H',(run Tryz.prog E).call 71 [.pointer (some ⟨cid,0,none⟩),w] H=some (outF (brasB R c 0 l),H')∧Same (fun _=>False) H H':=by
 suffices key:Gives ((run Tryz.prog E).call 71 [.pointer (some ⟨cid,0,none⟩),w] H) fun o H'=>o=outF (brasB R c 0 l)∧Same (fun _=>False) H H' by
  obtain⟨o,H',e,rfl,k⟩:=key
  exact⟨H',e,k⟩
 obtain⟨b,rfl⟩:=repBra.G_slice gl
 rw[c_tbras hE,callB,bodyOf]
 simp[Tryz.f71]
 refine loop_wp (fun m t K=>∃ k,k≤l.length∧m=l.length - k∧rd t 8 = .int .i64 k∧Same (fun _=>False) H K∧brasB R c k (l.drop k)=brasB R c 0 l) l.length ?_ ?_
 · exact⟨0,Nat.zero_le _,by simp,by simp,Same.refl _ _,by simp⟩
 · rintro m t K hkk ⟨k,hkl,rfl,g8,kK,hg⟩
   have ht:t.length=31:=hkk.1.trans (by simp[len_Bs])
   have hh:=hkk.all [0,6,7] (by decide +kernel)
   simp at hh
   obtain⟨u0,u6,u7⟩:=hh
   have w1:IntKind.i64.wrap ((k:Int)+1)=(k:Int)+1:=wrap64 _ (by omega) (by omega)
   rcases Nat.lt_or_ge k l.length with hlt | hge
   · obtain⟨id,tl,cs,e1,_,hid,hrow,hcl,hget,hle⟩:=repBra.G_at gl hlt
     cases e1
     rw[List.drop_eq_getElem_cons hlt,brasB]at hg
     have wfb:=hwf _ (List.getElem_mem hlt)
     have szq:=hsz _ (List.getElem_mem hlt)
     have hK:=h.keep kK
     generalize l[k]=q at *
     obtain⟨z1,z2,hq,ga,gc⟩:=hget
     have hcl':cs.length=l.length * 4:=hcl
     have hle':k * 4+4≤l.length * 4:=hle
     have hrow':H0.get id = .row true tl 4 cs:=hrow
     have hq':List.take 4 (List.drop (k * 4) cs)=[.int .i64 q.at_,.string q.name,z1,z2]:=hq
     obtain⟨bz1,rfl⟩:=repEx.G_slice ga
     obtain⟨bz2,rfl⟩:=repItm.G_slice gc
     have hrK:=hK.kp.at hrow' (by simp) (by omega)
     have kq:Same (fun _=>False) K (K.push (.row true 0 1 [.int .i64 q.at_,.string q.name,.slice bz1 q.args.length q.args.length,.slice bz2 q.claims.length q.claims.length])):=Same.push _ _ _
     have g5:(K.push (.row true 0 1 [.int .i64 q.at_,.string q.name,.slice bz1 q.args.length q.args.length,.slice bz2 q.claims.length q.claims.length])).get K.n = .row true 0 1 [.int .i64 q.at_,.string q.name,.slice bz1 q.args.length q.args.length,.slice bz2 q.claims.length q.claims.length]:=Heap.get_push_self _ _
     simp[ht,u0,u6,u7,g8,hlt,hrK,hcl',hle',hq']
     generalize K.push (.row true 0 1 [.int .i64 q.at_,.string q.name,.slice bz1 q.args.length q.args.length,.slice bz2 q.claims.length q.claims.length])=Kp at *
     have kp:=kK.trans kq
     unfold braB at hg
     by_cases c8:8≤k
     · have c8':(8:Int)≤(k:Int):=by omega
       have ef:=tfail_run hE 16 q.at_ Kp
       rw[if_pos c8]at hg
       simp[ht,u0,u6,u7,c8',g5,ef]
       rw[← hg]
       exact⟨rfl,kp⟩
     have c8':¬(8:Int)≤(k:Int):=by omega
     rw[if_neg c8,Option.none_or]at hg
     obtain⟨K1,e1,k1⟩:=tcall_run hE hT ha hok hgd (hK.keep kq) q.name q.at_ (LX.of ga) szq.1 wfb.1
     have g51:=k1.at g5 (by simp) (fun h=>h)
     obtain⟨K2,e2,k2⟩:=titems_run hE hT ha hok hgd ((hK.keep kq).keep k1) gc szq.2
     cases hc:callT R c q.name q.at_ q.args with
     | some z =>
      rw[hc]at e1 hg
      simp only[outF]at e1
      simp[ht,u0,u6,u7,c8',g5,e1]
      rw[← hg]
      exact⟨rfl,kp.trans k1⟩
     | none =>
      rw[hc,Option.none_or]at hg
      rw[hc]at e1
      simp only[outF]at e1
      cases hi:itemsB R c.p [] q.claims with
      | some z =>
       rw[hi]at e2 hg
       simp only[outF]at e2
       simp[ht,u0,u6,u7,c8',g5,e1,g51,e2]
       rw[← hg]
       exact⟨rfl,kp.trans (k1.trans k2)⟩
      | none =>
       rw[hi,Option.none_or]at hg
       rw[hi]at e2
       simp only[outF]at e2
       simp[ht,u0,u6,u7,g8,c8',g5,e1,g51,e2,w1]
       exact⟨l.length - (k+1),by omega,k+1,by omega,rfl,by simp[ht],kp.trans (k1.trans k2),hg⟩
   · have:k=l.length:=by omega
     subst this
     simp[brasB]at hg
     simp[ht,u0,u6,u7,g8]
     rw[← hg];exact⟨rfl,kK⟩
end
theorem szXs_len:∀ l:List Ex,l.length≤szXs l
 | []=>Nat.zero_le _
 | .mk _ _ _ _ _ _ :: l=>by have:=szXs_len l;simp only[szXs,szX,List.length_cons];omega
theorem szSs_len:∀ l:List Stm,l.length≤szSs l
 | []=>Nat.zero_le _
 | .mk _ _ _ _ _ _ _ _ :: l=>by have:=szSs_len l;simp only[szSs,szS,List.length_cons];omega
theorem szSs_mem {b:Stm}:∀ {l:List Stm},b∈l→szS b≤szSs l
 | a :: l, h => by
  simp only[szSs]
  rcases List.mem_cons.1 h with rfl | h
  · omega
  · have:=szSs_mem h;omega
theorem szBs_len:∀ l:List Bra,l.length≤szBs l
 | []=>Nat.zero_le _
 | b :: l=>by have:=szBs_len l;simp only[szBs,szB,List.length_cons];omega
theorem szBs_mem {b:Bra}:∀ {l:List Bra},b∈l→szB b≤szBs l
 | a :: l, h => by
  simp only[szBs]
  rcases List.mem_cons.1 h with rfl | h
  · omega
  · have:=szBs_mem h;omega
def LS (H:Heap)(v:Value)(l:List Stm):Prop:=(v = .slice none 0 0∧l=[])∨∃ (S:Nat→Prop) (id tl:Nat) (cs:List Value),v = .slice (some ⟨id,0,none⟩) l.length l.length∧H.get id = .row true tl 8 cs∧RSs H S l cs
theorem LS.slice {H:Heap}{v:Value}{l:List Stm}(h:LS H v l):∃ b,v = .slice b l.length l.length:=by
 rcases h with⟨rfl,rfl⟩ | ⟨S,id,tl,cs,rfl,_⟩
 · exact⟨_,rfl⟩
 · exact⟨_,rfl⟩
theorem LS.at {H:Heap}{v:Value}{l:List Stm}(h:LS H v l){k:Nat}(hk:k<l.length):∃ (S:Nat→Prop)(id tl:Nat)(cs:List Value),v = .slice (some ⟨id,0,none⟩) l.length l.length∧id<H.n∧H.get id = .row true tl 8 cs∧RS H S l[k] ((cs.drop (k * 8)).take 8)∧cs.length=l.length * 8∧k * 8+8≤l.length * 8:=by
 rcases h with⟨rfl,rfl⟩ | ⟨S,id,tl,cs,rfl,hg,hs⟩
 · cases hk
 · have hs':=repStm_L.2 hs
   have:=repStm.L_get k hk hs'
   have hl:=repStm.L_len hs'
   simp only[repStm]at this hl
   exact⟨S,id,tl,cs,rfl,Heap.lt_of_get hg (by simp),hg,this,hl,by omega⟩
theorem LS.of {H:Heap}{S:Nat→Prop}{v:Value}{l:List Stm}(h:repStm.G H S v l):LS H v l:=by
 rcases h with h | ⟨id,tl,cs,h1,_,_,h4,h5⟩
 · exact .inl h
 · exact .inr ⟨_,id,tl,cs,h1,h4,repStm_L.1 h5⟩
section
variable {E:Hooks} (hE:Plain E)
include hE
variable {H0:Heap} {rtid cid:Nat} {R:RT}
variable {col:Nat→Nat} {v1 v2 v3 v4 v5 v6:Value} (hR:RRef H0 col rtid v1 v2 v3 v4 v5 v6 R) (hok:ROK R) (hgd:RGood R)
include hR hok hgd
end
def RetT (H0 H:Heap)(tid cid:Nat)(c:At)(v:Value)(f:Option Flt)(H':Heap):Prop :=
 Same (fun i=>i=cid∨vid v i) H H'∧(f=none→∃ v',CT H0 H' tid cid c v'∧∀ i,vid v' i→vid v i∨H.n≤i)
theorem RetT.quiet {H0 H H':Heap}{tid cid:Nat}{c:At}{v:Value}{f:Option Flt}(h:CT H0 H tid cid c v)(k:Same (fun _=>False) H H'):RetT H0 H tid cid c v f H' :=
 ⟨k.none,fun _=>⟨v,h.keep k,fun _ h => .inl h⟩⟩
theorem RetT.before {H0 H A H':Heap}{tid cid:Nat}{c:At}{v:Value}{f:Option Flt}(k:Same (fun _=>False) H A)(r:RetT H0 A tid cid c v f H'):RetT H0 H tid cid c v f H' :=
 ⟨k.none.trans r.1,fun hf=>by
  obtain⟨v',h1,h2⟩:=r.2 hf
  exact⟨v',h1,fun i hi=>(h2 i hi).imp id fun h=>Nat.le_trans k.n h⟩⟩
theorem RetT.then {H0 H A H':Heap}{tid cid:Nat}{c:At}{v v':Value}{f:Option Flt}(k:Same (fun i=>i=cid∨vid v i) H A)(hv:∀ i,vid v' i→vid v i∨H.n≤i)(r:RetT H0 A tid cid c v' f H'):RetT H0 H tid cid c v f H' :=
 ⟨k.then r.1 fun i hi=>by
   rcases hi with hi | hi
   · exact .inl (.inl hi)
   · exact (hv i hi).imp .inr id,
  fun hf=>by
   obtain⟨w,h1,h2⟩:=r.2 hf
   exact⟨w,h1,fun i hi=>by
    rcases h2 i hi with h | h
    · exact hv i h
    · exact .inr (Nat.le_trans k.n h)⟩⟩
theorem CT.vid_lt {H0 H:Heap}{tid cid:Nat}{c:At}{v:Value}(h:CT H0 H tid cid c v){i:Nat}(hi:vid v i):i<H.n∧H0.n≤i∧i≠cid:=by
 rcases h.gi with⟨n,rfl,rfl,_⟩ | ⟨id,tl,cap,cs,rfl,_,hS,hg,_⟩
 · exact hi.elim
 · have:id=i:=hi
   subst this
   exact⟨Heap.lt_of_get hg (by simp),hS.1,hS.2⟩
theorem CT.lt {H0 H:Heap}{tid cid:Nat}{c:At}{v:Value}(h:CT H0 H tid cid c v):cid<H.n:=Heap.lt_of_get h.obj (by simp)
def TSt (E:Hooks)(H0:Heap)(tid cid:Nat)(R:RT)(x:Stm):Prop:=∀ {H:Heap} {c:At} {v:Value} {cs:List Value} {S:Nat→Prop},c.cond=ByteArray.empty→c.ins.length+szS x≤100000→CT H0 H tid cid c v→RS H0 S x cs →
 ∃ H',(run Tryz.prog E).call 49 [.pointer (some ⟨cid,0,none⟩),.agg ⟨cs⟩] H=some (outF (stB R c.p c.ins x),H')∧RetT H0 H tid cid c v (stB R c.p c.ins x) H'
def TsI (H0 H:Heap)(tid cid:Nat)(R:RT)(c:At)(v:Value)(l:List Stm)(m:Nat)(t:List Value)(K:Heap):Prop :=
 ∃ (k:Nat) (v':Value),k≤l.length∧m=l.length - k∧rd t 8 = .int .i64 k∧Same (fun i=>i=cid∨vid v i) H K∧CT H0 K tid cid c v'∧(∀ i,vid v' i→vid v i∨H.n≤i)∧stsB R c.p c.ins (l.drop k)=stsB R c.p c.ins l
section
variable {E:Hooks} (hE:Plain E)
include hE
theorem c_tstmts (args:List Value)(H:Heap):(run Tryz.prog E).call 20 args H=callB Tryz.prog E Tryz.f20 args H:=call_B Tryz.func20 rfl (by decide +kernel) (hE.no _ rfl rfl) args H
theorem c_tstmt (args:List Value)(H:Heap):(run Tryz.prog E).call 49 args H=callB Tryz.prog E Tryz.f49 args H:=call_B Tryz.func49 rfl (by decide +kernel) (hE.no _ rfl rfl) args H
variable {H0:Heap} {tid cid:Nat} {R:RT}
theorem tstmts_of {H:Heap}{c:At}{v:Value}(hc:c.cond=ByteArray.empty)(h:CT H0 H tid cid c v){w:Value}{l:List Stm}(gl:LS H0 w l)(hil:c.ins.length+szSs l≤100000)(hm:∀ x∈l,TSt E H0 tid cid R x) :
  ∃ H',(run Tryz.prog E).call 20 [.pointer (some ⟨cid,0,none⟩),w] H=some (outF (stsB R c.p c.ins l),H')∧RetT H0 H tid cid c v (stsB R c.p c.ins l) H':=by
 suffices key:Gives ((run Tryz.prog E).call 20 [.pointer (some ⟨cid,0,none⟩),w] H) fun o H'=>o=outF (stsB R c.p c.ins l)∧RetT H0 H tid cid c v (stsB R c.p c.ins l) H' by
  obtain⟨o,H',e,rfl,k⟩:=key
  exact⟨H',e,k⟩
 have hl:=szSs_len l
 obtain⟨b,rfl⟩:=gl.slice
 rw[c_tstmts hE,callB,bodyOf]
 simp[Tryz.f20]
 refine loop_wp (TsI H0 H tid cid R c v l) l.length ?_ ?_
 · exact⟨0,v,Nat.zero_le _,by simp,by simp,Same.refl _ _,h,fun _ h => .inl h,by simp⟩
 · rintro m t K hkk ⟨k,v',hkl,rfl,g8,kK,hK,hv,hg⟩
   have ht:t.length=16:=hkk.1.trans (by simp[len_Bs])
   have hh:=hkk.all [0,6,7] (by decide +kernel)
   simp at hh
   obtain⟨u0,u6,u7⟩:=hh
   have w1:IntKind.i64.wrap ((k:Int)+1)=(k:Int)+1:=wrap64 _ (by omega) (by omega)
   rcases Nat.lt_or_ge k l.length with hlt | hge
   · obtain⟨S,id,tl,cs,e1,hid,hrow,hget,hcl,hle⟩:=gl.at hlt
     cases e1
     rw[List.drop_eq_getElem_cons hlt,stsB]at hg
     have hx:=fun {K:Heap} (q:CT H0 K tid cid c v')=>hm _ (List.getElem_mem hlt) hc (by have:=szSs_mem (List.getElem_mem hlt);omega) q hget
     generalize l[k]=x at *
     have hrK:=hK.kp.at hrow (by simp) (by omega)
     have hlen:=hget.len
     have kq:Same (fun _=>False) K (K.push (.row true 0 1 (List.take 8 (List.drop (k * 8) cs)))):=Same.push _ _ _
     have g5:(K.push (.row true 0 1 (List.take 8 (List.drop (k * 8) cs)))).get K.n = .row true 0 1 (List.take 8 (List.drop (k * 8) cs)):=Heap.get_push_self _ _
     obtain⟨K2,e2,r2⟩:=hx (hK.keep kq)
     have r3:=RetT.then kK hv (r2.before kq)
     simp[ht,u0,u6,u7,g8,hlt,hrK,hcl,hle,hlen]
     have tt:List.take 8 (List.take 8 (List.drop (k * 8) cs))=List.take 8 (List.drop (k * 8) cs):=List.take_of_length_le (by rw[hlen];exact Nat.le_refl 8)
     rw[tt]
     generalize List.take 8 (List.drop (k * 8) cs)=ds at *
     generalize K.push (.row true 0 1 ds)=Kp at *
     cases hs:stB R c.p c.ins x with
     | some q =>
      rw[hs]at e2 hg r3
      simp only[outF]at e2
      simp[ht,u0,u6,u7,g8,e2]
      rw[← hg]
      exact⟨rfl,r3.1,fun h=>by cases h⟩
     | none =>
      rw[hs,Option.none_or]at hg
      rw[hs]at e2 r3
      simp only[outF]at e2
      obtain⟨v2,h2,hv2⟩:=r3.2 rfl
      simp[ht,u0,u6,u7,g8,e2,w1]
      exact⟨l.length - (k+1),by omega,k+1,v2,by omega,rfl,by simp[ht],r3.1,h2,hv2,hg⟩
   · have:k=l.length:=by omega
     subst this
     simp[stsB]at hg
     simp[ht,u0,u6,u7,g8]
     rw[← hg];exact⟨rfl,kK,fun _=>⟨v',hK,hv⟩⟩
end
def TRg (E:Hooks)(H0:Heap)(tid cid:Nat)(R:RT)(x:Stm):Prop:=∀ {H:Heap} {c:At} {v:Value} {cs:List Value} {S:Nat→Prop},c.cond=ByteArray.empty→c.ins.length+szS x≤100000→CT H0 H tid cid c v→RS H0 S x cs →
 ∃ H',(run Tryz.prog E).call 72 [.pointer (some ⟨cid,0,none⟩),.agg ⟨cs⟩] H=some (outF (stB R c.p c.ins x),H')∧RetT H0 H tid cid c v (stB R c.p c.ins x) H'
section
variable {E:Hooks} (hE:Plain E)
include hE
variable {H0:Heap} {tid cid:Nat} {R:RT} {col:Nat→Nat} {nid pid rid:Nat} {v1 v2 v3 v4 v5:Value} {T:Tab} (hT:RTab H0 col tid nid pid rid v1 v2 v3 v4 v5 T) (ha:Scope.Agree T R) (hok:TOK T) (hgd:RGood R)
include hT ha hok hgd
theorem tstmt_of {kind at_:Int}{x:ByteArray}{e:List Ex}{body els:List Stm}{br:List Bra}{items:List Itm}(hwf:WFs (.mk kind at_ x e body els br items))
  (hb:∀ y∈body,TSt E H0 tid cid R y) (he:∀ y∈els,TSt E H0 tid cid R y) (hrg:kind=10→TRg E H0 tid cid R (.mk kind at_ x e body els br items)):TSt E H0 tid cid R (.mk kind at_ x e body els br items):=by
 intro H c v cs S hc0 hil h hc
 have hsz:szS (.mk kind at_ x e body els br items)≤100000:=by omega
 suffices key:Gives ((run Tryz.prog E).call 49 [.pointer (some ⟨cid,0,none⟩),.agg ⟨cs⟩] H) fun o H'=>o=outF (stB R c.p c.ins (.mk kind at_ x e body els br items))∧RetT H0 H tid cid c v (stB R c.p c.ins (.mk kind at_ x e body els br items)) H' by
  obtain⟨o,H',e,rfl,k⟩:=key
  exact⟨H',e,k⟩
 have hcs:=hc
 simp only[RS]at hc
 obtain⟨w1,w2,w3,w4,w5,rfl,gE,gB,gI,gb,ge⟩:=hc
 have lb:LS H0 w2 body:=by
  rcases gb with h | ⟨id,tl,cs',h1,_,_,h4,h5⟩
  · exact .inl h
  · exact .inr ⟨_,id,tl,cs',h1,h4,h5⟩
 have le:LS H0 w3 els:=by
  rcases ge with h | ⟨id,tl,cs',h1,_,_,h4,h5⟩
  · exact .inl h
  · exact .inr ⟨_,id,tl,cs',h1,h4,h5⟩
 clear gb ge
 obtain⟨b1,rfl⟩:=repEx.G_slice gE
 obtain⟨b2,rfl⟩:=lb.slice
 obtain⟨b3,rfl⟩:=le.slice
 obtain⟨b4,rfl⟩:=repBra.G_slice gB
 obtain⟨b5,rfl⟩:=repItm.G_slice gI
 simp only[WFs]at hwf
 obtain⟨hst,wfe,wfb,wfl,wfr,wfi⟩:=hwf
 have hC:({ p:=c.p,ins:=c.ins,cond:=ByteArray.empty }:At)=c:=by rw[← hc0]
 have kp:Same (fun _=>False) H (H.push (.row true 0 1 [.int .i64 kind,.int .i64 at_,.string x,.slice b1 e.length e.length,.slice b2 body.length body.length,.slice b3 els.length els.length,.slice b4 br.length br.length,.slice b5 items.length items.length])):=Same.push _ _ _
 have h1:=h.keep kp
 have hlt:=h.lt
 have hne:H.n≠cid:=by omega
 have g3:(H.push (.row true 0 1 [.int .i64 kind,.int .i64 at_,.string x,.slice b1 e.length e.length,.slice b2 body.length body.length,.slice b3 els.length els.length,.slice b4 br.length br.length,.slice b5 items.length items.length])).get H.n = .row true 0 1 [.int .i64 kind,.int .i64 at_,.string x,.slice b1 e.length e.length,.slice b2 body.length body.length,.slice b3 els.length els.length,.slice b4 br.length br.length,.slice b5 items.length items.length]:=Heap.get_push_self _ _
 have st:∀ {f:Option Flt} {K:Heap},Same (fun _=>False) (H.push (.row true 0 1 [.int .i64 kind,.int .i64 at_,.string x,.slice b1 e.length e.length,.slice b2 body.length body.length,.slice b3 els.length els.length,.slice b4 br.length br.length,.slice b5 items.length items.length])) K→RetT H0 H tid cid c v f K:=fun k=>RetT.quiet h (kp.trans k)
 generalize hH1:H.push (.row true 0 1 [.int .i64 kind,.int .i64 at_,.string x,.slice b1 e.length e.length,.slice b2 body.length body.length,.slice b3 els.length els.length,.slice b4 br.length br.length,.slice b5 items.length items.length])=H1 at *
 have nbody:c.ins.length+szSs body≤100000:=by simp only[szS]at hil;omega
 have nels:c.ins.length+szSs els≤100000:=by simp only[szS]at hil;omega
 have ne:e.length≤100000:=by have:=szXs_len e;simp only[szS]at hsz;omega
 have ni:items.length≤100000:=by simp only[szS]at hsz;omega
 rw[c_tstmt hE,callB,bodyOf]
 simp only[stB,hC]
 have hlo:=hst.lo
 have hhi:=hst.hi
 have nbq:∀ q∈br,q.args.length≤100000∧q.claims.length≤100000:=fun q hq=>by
  have h1:=szBs_mem hq
  have h2:=szXs_len q.args
  simp only[szS]at hsz
  simp only[szB]at h1
  omega
 have nbr:br.length≤100000:=by have:=szBs_len br;simp only[szS]at hsz;omega
 rcases (show kind=1∨kind=2∨kind=3∨kind=4∨kind=5∨kind=6∨kind=7∨kind=8∨kind=9∨kind=10∨kind=11∨kind=12∨kind=13∨kind=14∨kind=15 by omega)with rfl | rfl | rfl | rfl | rfl | rfl | rfl | rfl | rfl | rfl | rfl | rfl | rfl | rfl | rfl
 · simp[Tryz.f49,hH1,g3,outF]
   exact st (Same.refl _ _)
 · obtain⟨K1,e1,k1⟩:=tvar_run hE hT ha hok hgd h1 x at_ false
   obtain⟨K2,e2,k2⟩:=twant_run hE hT ha hok hgd (h1.keep k1) 1 (LX.of gE) ne wfe
   have g31:=k1.at g3 (by simp) (fun h=>h)
   cases hv:varB R c x at_ false with
   | some q =>
    rw[hv]at e1
    simp only[outF]at e1
    simp[Tryz.f49,hH1,g3,e1,outF,hv]
    exact st k1
   | none =>
    rw[hv]at e1
    simp only[outF]at e1
    cases hw:wantB R c 1 e with
    | none =>
     rw[hw]at e2
     simp only[outF]at e2
     simp[Tryz.f49,hH1,g3,e1,g31,e2,outF,hv,hw]
     exact st (k1.trans k2)
    | some q =>
     rw[hw]at e2
     simp only[outF]at e2
     simp[Tryz.f49,hH1,g3,e1,g31,e2,outF,hv,hw]
     exact st (k1.trans k2)
 · obtain⟨K1,e1,k1⟩:=tvar_run hE hT ha hok hgd h1 x at_ true
   obtain⟨K2,e2,k2⟩:=twant_run hE hT ha hok hgd (h1.keep k1) 1 (LX.of gE) ne wfe
   have g31:=k1.at g3 (by simp) (fun h=>h)
   cases hv:varB R c x at_ true with
   | some q =>
    rw[hv]at e1
    simp only[outF]at e1
    simp[Tryz.f49,hH1,g3,e1,outF,hv]
    exact st k1
   | none =>
    rw[hv]at e1
    simp only[outF]at e1
    cases hw:wantB R c 1 e with
    | none =>
     rw[hw]at e2
     simp only[outF]at e2
     simp[Tryz.f49,hH1,g3,e1,g31,e2,outF,hv,hw]
     exact st (k1.trans k2)
    | some q =>
     rw[hw]at e2
     simp only[outF]at e2
     simp[Tryz.f49,hH1,g3,e1,g31,e2,outF,hv,hw]
     exact st (k1.trans k2)
 · obtain⟨K1,e1,k1⟩:=twant_run hE hT ha hok hgd h1 2 (LX.of gE) ne wfe
   have g31:=k1.at g3 (by simp) (fun h=>h)
   have c1:=h1.keep k1
   cases hw:wantB R c 2 e with
   | some q =>
    rw[hw]at e1
    simp only[outF]at e1
    simp[Tryz.f49,hH1,g3,e1,outF,hw]
    exact st k1
   | none =>
    rw[hw]at e1
    simp only[outF]at e1
    obtain⟨K2,e2,r2⟩:=tstmts_of hE hc0 c1 lb nbody hb
    have g32:=r2.1.at g31 (by simp) (fun z=>z.elim hne (fun hv=>by have:=(h.vid_lt hv).1;omega))
    have r2':=r2.before (kp.trans k1)
    cases hs:stsB R c.p c.ins body with
    | some q =>
     rw[hs]at e2 r2'
     simp only[outF]at e2
     simp[Tryz.f49,hH1,g3,e1,g31,e2,outF,hw,hs]
     exact⟨r2'.1,fun h=>by cases h⟩
    | none =>
     rw[hs]at e2 r2'
     simp only[outF]at e2
     obtain⟨v2,c2,hv2⟩:=r2'.2 rfl
     obtain⟨K3,e3,r3⟩:=tstmts_of hE hc0 c2 le nels he
     have r3':=RetT.then r2'.1 hv2 r3
     cases hs2:stsB R c.p c.ins els with
     | some q =>
      rw[hs2]at e3 r3'
      simp only[outF]at e3
      simp[Tryz.f49,hH1,g3,e1,g31,e2,g32,e3,outF,hw,hs,hs2]
      exact r3'
     | none =>
      rw[hs2]at e3 r3'
      simp only[outF]at e3
      simp[Tryz.f49,hH1,g3,e1,g31,e2,g32,e3,outF,hw,hs,hs2]
      exact r3'
 · obtain⟨K1,e1,k1⟩:=twant_run hE hT ha hok hgd h1 2 (LX.of gE) ne wfe
   have g31:=k1.at g3 (by simp) (fun h=>h)
   have c1:=h1.keep k1
   cases hw:wantB R c 2 e with
   | some q =>
    rw[hw]at e1
    simp only[outF]at e1
    simp[Tryz.f49,hH1,g3,e1,outF,hw]
    exact st k1
   | none =>
    rw[hw]at e1
    simp only[outF]at e1
    obtain⟨K2,e2,r2⟩:=tstmts_of hE hc0 c1 lb nbody hb
    have g32:=r2.1.at g31 (by simp) (fun z=>z.elim hne (fun hv=>by have:=(h.vid_lt hv).1;omega))
    have r2':=r2.before (kp.trans k1)
    cases hs:stsB R c.p c.ins body with
    | some q =>
     rw[hs]at e2 r2'
     simp only[outF]at e2
     simp[Tryz.f49,hH1,g3,e1,g31,e2,outF,hw,hs]
     exact⟨r2'.1,fun h=>by cases h⟩
    | none =>
     rw[hs]at e2 r2'
     simp only[outF]at e2
     obtain⟨v2,c2,hv2⟩:=r2'.2 rfl
     obtain⟨K3,e3,r3⟩:=tstmts_of hE hc0 c2 le nels he
     have r3':=RetT.then r2'.1 hv2 r3
     cases hs2:stsB R c.p c.ins els with
     | some q =>
      rw[hs2]at e3 r3'
      simp only[outF]at e3
      simp[Tryz.f49,hH1,g3,e1,g31,e2,g32,e3,outF,hw,hs,hs2]
      exact r3'
     | none =>
      rw[hs2]at e3 r3'
      simp only[outF]at e3
      simp[Tryz.f49,hH1,g3,e1,g31,e2,g32,e3,outF,hw,hs,hs2]
      exact r3'
 · -- 6
   obtain⟨K1,e1,k1⟩:=tcall_run hE hT ha hok hgd h1 x at_ (LX.of gE) ne wfe
   cases hv:callT R c x at_ e with
   | none =>
    rw[hv]at e1
    simp only[outF]at e1
    simp[Tryz.f49,hH1,g3,e1,outF,hv]
    exact st k1
   | some q =>
    rw[hv]at e1
    simp only[outF]at e1
    simp[Tryz.f49,hH1,g3,e1,outF,hv]
    exact st k1
 · -- 7
   obtain⟨K1,e1,k1⟩:=tbras_run hE hT ha hok hgd h1 gB nbr nbq wfr
   cases hv:brasB R c 0 br with
   | none =>
    rw[hv]at e1
    simp only[outF]at e1
    simp[Tryz.f49,hH1,g3,e1,outF,hv]
    exact st k1
   | some q =>
    rw[hv]at e1
    simp only[outF]at e1
    simp[Tryz.f49,hH1,g3,e1,outF,hv]
    exact st k1
 · -- 8
   obtain⟨o1,K1,e1,k1,ho1⟩:=tmust_run hE hT ha hok hgd h1 x at_ 2 (.inr (by decide))
   subst ho1
   cases hv:mustB R c.p x at_ 2 with
   | none =>
    rw[hv]at e1
    simp[Tryz.f49,hH1,g3,e1,outF,hv]
    exact st k1
   | some q =>
    rw[hv]at e1
    simp[Tryz.f49,hH1,g3,e1,outF,hv]
    exact st k1
 · -- 9
   obtain⟨o1,K1,e1,k1,ho1⟩:=tmust_run hE hT ha hok hgd h1 x at_ 2 (.inr (by decide))
   subst ho1
   cases hv:mustB R c.p x at_ 2 with
   | none =>
    rw[hv]at e1
    simp[Tryz.f49,hH1,g3,e1,outF,hv]
    exact st k1
   | some q =>
    rw[hv]at e1
    simp[Tryz.f49,hH1,g3,e1,outF,hv]
    exact st k1
 · obtain⟨K1,e1,r1⟩:=hrg rfl hc0 hil h1 hcs
   have r1':=r1.before kp
   generalize hW:stB R c.p c.ins (.mk 10 at_ x e body els br items)=W at r1' e1
   simp only[stB,hC]at hW ⊢
   rw[hW]
   cases W with
   | some q =>
    simp only[outF]at e1
    simp[Tryz.f49,hH1,g3,e1,outF]
    exact r1'
   | none =>
    simp only[outF]at e1
    simp[Tryz.f49,hH1,g3,e1,outF]
    exact r1'
 · -- 11
   obtain⟨K1,e1,k1⟩:=titems_run hE hT ha hok hgd h1 gI ni
   cases hv:itemsB R c.p [] items with
   | none =>
    rw[hv]at e1
    simp only[outF]at e1
    simp[Tryz.f49,hH1,g3,e1,outF,hv]
    exact st k1
   | some q =>
    rw[hv]at e1
    simp only[outF]at e1
    simp[Tryz.f49,hH1,g3,e1,outF,hv]
    exact st k1
 · -- 12
   obtain⟨K1,e1,k1⟩:=titems_run hE hT ha hok hgd h1 gI ni
   cases hv:itemsB R c.p [] items with
   | none =>
    rw[hv]at e1
    simp only[outF]at e1
    simp[Tryz.f49,hH1,g3,e1,outF,hv]
    exact st k1
   | some q =>
    rw[hv]at e1
    simp only[outF]at e1
    simp[Tryz.f49,hH1,g3,e1,outF,hv]
    exact st k1
 · obtain⟨K1,e1,k1⟩:=tvar_run hE hT ha hok hgd h1 x at_ false
   obtain⟨K2,e2,k2⟩:=twant_run hE hT ha hok hgd (h1.keep k1) 1 (LX.of gE) ne wfe
   have g31:=k1.at g3 (by simp) (fun h=>h)
   cases hv:varB R c x at_ false with
   | some q =>
    rw[hv]at e1
    simp only[outF]at e1
    simp[Tryz.f49,hH1,g3,e1,outF,hv]
    exact st k1
   | none =>
    rw[hv]at e1
    simp only[outF]at e1
    cases hw:wantB R c 1 e with
    | none =>
     rw[hw]at e2
     simp only[outF]at e2
     simp[Tryz.f49,hH1,g3,e1,g31,e2,outF,hv,hw]
     exact st (k1.trans k2)
    | some q =>
     rw[hw]at e2
     simp only[outF]at e2
     simp[Tryz.f49,hH1,g3,e1,g31,e2,outF,hv,hw]
     exact st (k1.trans k2)
 · obtain⟨K1,e1,k1⟩:=tvar_run hE hT ha hok hgd h1 x at_ true
   obtain⟨K2,e2,k2⟩:=twant_run hE hT ha hok hgd (h1.keep k1) 1 (LX.of gE) ne wfe
   have g31:=k1.at g3 (by simp) (fun h=>h)
   cases hv:varB R c x at_ true with
   | some q =>
    rw[hv]at e1
    simp only[outF]at e1
    simp[Tryz.f49,hH1,g3,e1,outF,hv]
    exact st k1
   | none =>
    rw[hv]at e1
    simp only[outF]at e1
    cases hw:wantB R c 1 e with
    | none =>
     rw[hw]at e2
     simp only[outF]at e2
     simp[Tryz.f49,hH1,g3,e1,g31,e2,outF,hv,hw]
     exact st (k1.trans k2)
    | some q =>
     rw[hw]at e2
     simp only[outF]at e2
     simp[Tryz.f49,hH1,g3,e1,g31,e2,outF,hv,hw]
     exact st (k1.trans k2)
 · obtain⟨K1,e1,k1⟩:=twant_run hE hT ha hok hgd h1 1 (LX.of gE) ne wfe
   cases hv:wantB R c 1 e with
   | none =>
    rw[hv]at e1
    simp only[outF]at e1
    simp[Tryz.f49,hH1,g3,e1,outF,hv]
    exact st k1
   | some q =>
    rw[hv]at e1
    simp only[outF]at e1
    simp[Tryz.f49,hH1,g3,e1,outF,hv]
    exact st k1
end
theorem q_treg:quiet Tryz.prog (drawN Tryz.f72 0)=true:=by decide +kernel
theorem pl_treg1:planOf Tryz.prog (drawN Tryz.f72 1)=some [some (0,2),some (0,1),some (0,1),some (0,1),some (0,1),none,none,none,none,none,none,none]:=by decide +kernel
theorem pl_treg2:planOf Tryz.prog (drawN Tryz.f72 2)=some [some (0,1),none,none,none,none,none,none,none,none,none,none,none,none,none,none]:=by decide +kernel
theorem ins_app {H:Heap}{S:Nat→Prop}{v:Value}{l:List ByteArray}(h:InS H S v l)(hl:l.length≤100000)(x:ByteArray) :
  ∃ b' cap' K',exAppend Tryz.prog [68,68] v (.slice (some ⟨H.n,0,none⟩) 1 1) (H.push (.row true 0 1 [.string x]))=some (.slice b' (l.length+1) cap',K')∧InS K' (fun i=>S i∨H.n≤i) (.slice b' (l.length+1) cap') (l++[x])∧Same (vid v) H K'∧(∀ i,vid (.slice b' (l.length+1) cap') i→vid v i∨H.n≤i):=by
 rcases h with⟨n,rfl,rfl,rfl⟩ | ⟨id,tl,cap,cs,rfl,htl,hS,hg,hcl,hle,htk⟩
 · refine⟨some ⟨H.n+1,0,none⟩,1,(H.push (.row true 0 1 [.string x])).push (.row true 1 1 [.string x]),?_,.inr ⟨H.n+1,1,1,[.string x],rfl,Nat.le_refl _,.inr (Nat.le_succ _),?_,rfl,Nat.le_refl _,rfl⟩,((Same.push _ _ _).then_push _).none,?_⟩
   · simp[exAppend,exAppendRow]
   · exact Heap.get_push_self _ _
   · rintro i hi
     have:H.n+1=i:=hi
     exact .inr (by omega)
 · have hid:id<H.n:=Heap.lt_of_get hg (by simp)
   have hg1:(H.push (.row true 0 1 [.string x])).get id = .row true tl 1 cs:=by rw[Heap.get_push_lt _ _ hid];exact hg
   have hn1:(H.push (.row true 0 1 [.string x])).n=H.n+1:=rfl
   have hs1:Same (vid (.slice (some ⟨id,0,none⟩) l.length cap)) H (H.push (.row true 0 1 [.string x])):=(Same.push _ _ _).none
   have hv:vid (.slice (some ⟨id,0,none⟩) l.length cap) id:=rfl
   rcases Nat.lt_or_ge l.length cap with hlt | hge
   · refine⟨some ⟨id,0,none⟩,cap,(H.push (.row true 0 1 [.string x])).set id (.row true tl 1 (writeAt cs l.length [.string x])),?_,.inr ⟨id,tl,cap,writeAt cs l.length [.string x],by simp,htl,.inl hS,Heap.get_set_self _ _ (Nat.lt_succ_of_lt hid),?_,by simp;omega,?_⟩,hs1.then_set (Nat.lt_succ_of_lt hid) (.inl hv) _,fun i hi => .inl hi⟩
     · simp[exAppend,exAppendRow,hg1,show (l.length+1+200) * 16≤140737488355328 by omega,show l.length+1≤140737488355328 by omega,hle,show l.length+1≤cap by omega,show l.length+1≤cs.length by omega]
     · simp;omega
     · rw[writeAt,← List.append_assoc,List.take_append_of_le_length (by simp;omega),List.take_of_length_le (by simp;omega),htk];simp
   · have:l.length=cap:=by omega
     subst this
     rcases (show tl=0∨tl=1 by omega)with rfl | rfl
     · refine⟨some ⟨H.n+1,0,none⟩,l.length+1,(H.push (.row true 0 1 [.string x])).push (.row true 1 1 ((l++[x]).map Value.string)),?_,.inr ⟨H.n+1,1,l.length+1,(l++[x]).map Value.string,by simp,Nat.le_refl _,.inr (Nat.le_succ _),Heap.get_push_self _ _,by simp,by simp,List.take_of_length_le (by simp)⟩,hs1.then_push _,?_⟩
       · simp[exAppend,exAppendRow,hg1,show (l.length+1+200) * 16≤140737488355328 by omega,show l.length+1≤140737488355328 by omega,hcl,htk]
       · intro i hi
         have:H.n+1=i:=hi
         exact .inr (by omega)
     · refine⟨some ⟨H.n+1,0,none⟩,l.length+1,((H.push (.row true 0 1 [.string x])).set id .dead).push (.row true 1 1 ((l++[x]).map Value.string)),?_,.inr ⟨H.n+1,1,l.length+1,(l++[x]).map Value.string,by simp,Nat.le_refl _,.inr (Nat.le_succ _),Heap.get_push_self _ _,by simp,by simp,List.take_of_length_le (by simp)⟩,(hs1.then_set (Nat.lt_succ_of_lt hid) (.inl hv) _).then_push _,?_⟩
       · simp[exAppend,exAppendRow,hg1,show (l.length+1+200) * 16≤140737488355328 by omega,show l.length+1≤140737488355328 by omega,hcl,htk]
       · intro i hi
         have:H.n+1=i:=hi
         exact .inr (by omega)
theorem CT.turn {H0 K:Heap}{tid cid:Nat}{c:At}{v:Value}(h:CT H0 K tid cid c v)(x:ByteArray):CT H0 (K.set cid (.row true 0 1 (tk4 tid c.p v x))) tid cid ⟨c.p,c.ins,x⟩ v :=
 ⟨h.kp.then_set h.lt (.inl h.hc) _,h.hc,Heap.get_set_self _ _ h.lt,h.gi.move (X:=fun i=>i=cid) (Same.then_set (X:=fun i=>i=cid) (Same.refl _ _) h.lt (.inl rfl) _) fun i hi _=>⟨hi,hi.2⟩,h.il⟩
theorem InS.short {H:Heap}{S:Nat→Prop}{b:Option Addr}{n cap:Nat}{l:List ByteArray}{x:ByteArray}(h:InS H S (.slice b n cap) (l++[x])) :
  ∃ id tl cs,b=some ⟨id,0,none⟩∧n=l.length+1∧H.get id = .row true tl 1 cs∧cs.length=cap∧l.length+1≤cap∧S id∧InS H S (.slice b l.length cap) l:=by
 rcases h with⟨n,_,_,h⟩ | ⟨id,tl,cap',cs,e1,h2,h3,h4,h5,h6,h7⟩
 · simp at h
 · simp only[Value.slice.injEq]at e1
   obtain⟨rfl,rfl,rfl⟩:=e1
   simp only[List.length_append,List.length_singleton]at h6 h7 ⊢
   refine⟨id,tl,cs,rfl,trivial,h4,h5,h6,h3,.inr ⟨id,tl,cap,cs,rfl,h2,h3,h4,h5,by omega,?_⟩⟩
   have e:cs.take l.length=(cs.take (l.length+1)).take l.length:=by rw[List.take_take,Nat.min_eq_left (by omega)]
   rw[e,h7,List.map_append]
   exact List.take_left' (by simp)
section
variable {E:Hooks} (hE:Plain E)
include hE
theorem c_treg (args:List Value)(H:Heap):(run Tryz.prog E).call 72 args H=callB Tryz.prog E Tryz.f72 args H:=call_B Tryz.func72 rfl (by decide +kernel) (hE.no _ rfl rfl) args H
variable {H0:Heap} {tid cid:Nat} {R:RT} {col:Nat→Nat} {nid pid rid:Nat} {v1 v2 v3 v4 v5:Value} {T:Tab} (hT:RTab H0 col tid nid pid rid v1 v2 v3 v4 v5 T) (ha:Scope.Agree T R) (hok:TOK T) (hgd:RGood R)
include hT ha hok hgd
theorem tregion_of {kind at_:Int}{x:ByteArray}{e:List Ex}{body els:List Stm}{br:List Bra}{items:List Itm}(hwf:WFs (.mk kind at_ x e body els br items))(hk10:kind=10)
  (hb:∀ y∈body,TSt E H0 tid cid R y):TRg E H0 tid cid R (.mk kind at_ x e body els br items):=by
 intro H c v cs S hc0 hil h hc
 have hsz:szS (.mk kind at_ x e body els br items)≤100000:=by omega
 suffices key:Gives ((run Tryz.prog E).call 72 [.pointer (some ⟨cid,0,none⟩),.agg ⟨cs⟩] H) fun o H'=>o=outF (stB R c.p c.ins (.mk kind at_ x e body els br items))∧RetT H0 H tid cid c v (stB R c.p c.ins (.mk kind at_ x e body els br items)) H' by
  obtain⟨o,H',e,rfl,k⟩:=key
  exact⟨H',e,k⟩
 simp only[RS]at hc
 obtain⟨w1,w2,w3,w4,w5,rfl,gE,gB,gI,gb,ge⟩:=hc
 have lb:LS H0 w2 body:=by
  rcases gb with h | ⟨id,tl,cs',h1,_,_,h4,h5⟩
  · exact .inl h
  · exact .inr ⟨_,id,tl,cs',h1,h4,h5⟩
 have le:LS H0 w3 els:=by
  rcases ge with h | ⟨id,tl,cs',h1,_,_,h4,h5⟩
  · exact .inl h
  · exact .inr ⟨_,id,tl,cs',h1,h4,h5⟩
 clear gb ge
 obtain⟨b1,rfl⟩:=repEx.G_slice gE
 obtain⟨b2,rfl⟩:=lb.slice
 obtain⟨b3,rfl⟩:=le.slice
 obtain⟨b4,rfl⟩:=repBra.G_slice gB
 obtain⟨b5,rfl⟩:=repItm.G_slice gI
 simp only[WFs]at hwf
 obtain⟨hst,wfe,wfb,wfl,wfr,wfi⟩:=hwf
 have hst':stB R c.p c.ins (.mk kind at_ x e body els br items)=(mustB R c.p x at_ 3).or ((if hasP c.ins x=true then some (22,at_)else none).or ((wantB R ⟨c.p,c.ins++[x],x⟩ 2 e).or (stsB R c.p (c.ins++[x]) body))):=by
  subst hk10
  simp[stB]
 rw[hst']
 clear hst'
 have kp:Same (fun _=>False) H (H.push (.row true 0 1 [.int .i64 kind,.int .i64 at_,.string x,.slice b1 e.length e.length,.slice b2 body.length body.length,.slice b3 els.length els.length,.slice b4 br.length br.length,.slice b5 items.length items.length])):=Same.push _ _ _
 have h1:=h.keep kp
 have hlt:=h.lt
 have hne:H.n≠cid:=by omega
 have g3:(H.push (.row true 0 1 [.int .i64 kind,.int .i64 at_,.string x,.slice b1 e.length e.length,.slice b2 body.length body.length,.slice b3 els.length els.length,.slice b4 br.length br.length,.slice b5 items.length items.length])).get H.n = .row true 0 1 [.int .i64 kind,.int .i64 at_,.string x,.slice b1 e.length e.length,.slice b2 body.length body.length,.slice b3 els.length els.length,.slice b4 br.length br.length,.slice b5 items.length items.length]:=Heap.get_push_self _ _
 have st:∀ {f:Option Flt} {K:Heap},Same (fun _=>False) (H.push (.row true 0 1 [.int .i64 kind,.int .i64 at_,.string x,.slice b1 e.length e.length,.slice b2 body.length body.length,.slice b3 els.length els.length,.slice b4 br.length br.length,.slice b5 items.length items.length])) K→RetT H0 H tid cid c v f K:=fun k=>RetT.quiet h (kp.trans k)
 generalize hH1:H.push (.row true 0 1 [.int .i64 kind,.int .i64 at_,.string x,.slice b1 e.length e.length,.slice b2 body.length body.length,.slice b3 els.length els.length,.slice b4 br.length br.length,.slice b5 items.length items.length])=H1 at *
 have nbody:(c.ins++[x]).length+szSs body≤100000:=by simp only[szS]at hil;simp;omega
 have ne:e.length≤100000:=by have:=szXs_len e;simp only[szS]at hsz;omega
 rw[c_treg hE,callB,bodyOf]
 obtain⟨o1,K1,e1,k1,ho1⟩:=tmust_run hE hT ha hok hgd h1 x at_ 3 (.inr (by decide))
 subst ho1
 cases hv:mustB R c.p x at_ 3 with
 | some q =>
  rw[hv]at e1
  simp[Tryz.f72,hH1,g3,e1,outF]
  exact st k1
 | none =>
  rw[hv]at e1
  have g31:=k1.at g3 (by simp) (fun h=>h)
  have c1:=h1.keep k1
  have o1:=c1.obj
  simp only[tk4]at o1
  have e2:=tcontains_run hE c1.gi c1.il x
  obtain⟨b,cap,rfl⟩:=c1.gi.slice
  have q:=q_treg
  simp[Tryz.f72,hH1,g3,e1,Option.none_or]
  refine region_quiet (by exact q) ?_
  cases hp:hasP c.ins x with
  | true =>
   rw[hp]at e2
   have e3:=tfail_run hE 22 at_ K1
   simp[hH1,g3,e1,g31,o1,e2,e3,outF]
   exact st k1
  | false =>
   rw[hp]at e2
   simp[hH1,g3,e1,g31,o1,e2]
   obtain⟨b',cap',K2,e4,i4,k4,hv4⟩:=ins_app c1.gi c1.il x
   have hcid:cid<K1.n:=c1.lt
   have hcid2:cid<K2.n:=Nat.lt_of_lt_of_le hcid k4.n
   have o2:=k4.at o1 (by simp) (fun z=>(c1.vid_lt z).2.2 rfl)
   have g32:=k4.at g31 (by simp) (fun z=>absurd (h.vid_lt z).1 (Nat.lt_irrefl _))
   have g33:∀ o,(K2.set cid o).get H.n=_:=fun o=>(Heap.get_set_ne _ _ _ hcid2 _ hne).trans g32
   have o3:∀ o,(K2.set cid o).get cid=o:=fun o=>Heap.get_set_self _ _ hcid2
   have s3:∀ a b,(K2.set cid a).set cid b=K2.set cid b:=fun a b=>Heap.set_set _ _ _ _
   have o1p:∀ o,(K1.push o).get cid=_:=fun o=>(Heap.get_push_lt K1 o hcid).trans o1
   refine region_plan (by exact pl_treg1) ?_
   simp[drawF,hH1,g3,e1,g31,o1,o1p,e4,o2,g32,g33,o3,s3,hc0]
   have kB:Same (fun i=>i=cid∨vid (.slice b c.ins.length cap) i) H K2:=(kp.trans k1).none.then k4 fun i hi => .inl (.inr hi)
   have c3:CT H0 (K2.set cid (.row true 0 1 (tk4 tid c.p (.slice b' (c.ins.length+1) cap') x))) tid cid ⟨c.p,c.ins++[x],x⟩ (.slice b' (c.ins.length+1) cap'):=by
    refine⟨(c1.kp.then k4 fun i hi => .inl (c1.vid_lt hi).2.1).then_set hcid2 (.inl c1.hc) _,c1.hc,o3 _,i4.move (X:=fun i=>i=cid) (Same.then_set (X:=fun i=>i=cid) (Same.refl _ _) hcid2 (.inl rfl) _) ?_,by simp;simp only[szS]at hil;omega⟩
    rintro i (hi | hi) _
    · exact⟨hi,hi.2⟩
    · have:=c1.hc
      exact⟨⟨by omega,by omega⟩,by omega⟩
   have kB3:=kB.then_set hcid2 (.inl (.inl rfl)) (.row true 0 1 (tk4 tid c.p (.slice b' (c.ins.length+1) cap') x))
   have g34:=g33 (.row true 0 1 (tk4 tid c.p (.slice b' (c.ins.length+1) cap') x))
   obtain⟨K5,e5,k5⟩:=twant_run hE hT ha hok hgd c3 2 (LX.of gE) ne wfe
   have c5:=c3.keep k5
   have g35:=k5.at g34 (by simp) (fun h=>h)
   have kB5:=kB3.trans k5.none
   have o5:=c5.obj
   simp only[tk4]at e5 o5
   clear c3
   cases hw:wantB R ⟨c.p,c.ins++[x],x⟩ 2 e with
   | some q =>
    rw[hw]at e5
    simp only[outF]at e5
    simp[e5,outF]
    exact⟨kB5,fun z=>by cases z⟩
   | none =>
    rw[hw]at e5
    simp only[outF]at e5
    have c6:=c5.turn ByteArray.empty
    have kB6:=kB5.then_set c5.lt (.inl (.inl rfl)) (.row true 0 1 (tk4 tid c.p (.slice b' (c.ins.length+1) cap') ByteArray.empty))
    have g36:=(Heap.get_set_ne _ _ (.row true 0 1 (tk4 tid c.p (.slice b' (c.ins.length+1) cap') ByteArray.empty)) c5.lt _ hne).trans g35
    obtain⟨K7,e7,r7⟩:=tstmts_of hE rfl c6 lb nbody hb
    simp only[tk4]at e7 r7 g36 kB6
    have kB7:=kB6.then r7.1 fun i hi=>by
     rcases hi with hi | hi
     · exact .inl (.inl hi)
     · rcases hv4 i hi with hi | hi
       · exact .inl (.inr hi)
       · have:=(kp.trans k1).n
         exact .inr (by omega)
    cases hs:stsB R c.p (c.ins++[x]) body with
    | some q =>
     rw[hs]at e7
     simp only[outF]at e7
     simp[e5,o5,g36,e7,outF,show (⟨#[]⟩:ByteArray)=ByteArray.empty from rfl]
     exact⟨kB7,fun z=>by cases z⟩
    | none =>
     rw[hs]at e7 r7
     simp only[outF]at e7
     obtain⟨v7,c7,hv7⟩:=r7.2 rfl
     have o7:=c7.obj
     obtain⟨b7,cap7,rfl⟩:=c7.gi.slice
     obtain⟨id7,tl7,cs7,rfl,hn7,hg7,hcl7,hle7,hS7,hi7⟩:=c7.gi.short
     simp only[tk4]at o7
     simp[e5,o5,g36,e7,outF,show (⟨#[]⟩:ByteArray)=ByteArray.empty from rfl]
     have hil7:c.ins.length≤100000:=h.il
     have w7:IntKind.i64.wrap (c.ins.length:Int)=c.ins.length:=wrap64 _ (by omega) (by omega)
     have cut7:cutA id7 0 (c.ins.length+1) cap7 1 none (some (.int .i64 (c.ins.length:Int))) none K7=some (.slice (some ⟨id7,0,none⟩) c.ins.length cap7,K7):=by
      have h1:(c.ins.length:Int)≤cap7:=by omega
      have h2:¬(cap7:Int)=0:=by omega
      cases tl7<;>simp[cutA,boundOf,hg7,h1,h2]
     have o8:∀ o,(K7.set cid o).get cid=o:=fun o=>Heap.get_set_self _ _ c7.lt
     refine region_plan (by exact pl_treg2) ?_
     simp[drawF,o7,w7,cut7,o8]
     have c8:CT H0 (K7.set cid (.row true 0 1 (tk4 tid c.p (.slice (some ⟨id7,0,none⟩) c.ins.length cap7) ByteArray.empty))) tid cid c (.slice (some ⟨id7,0,none⟩) c.ins.length cap7):=by
      refine⟨c7.kp.then_set c7.lt (.inl c7.hc) _,c7.hc,?_,hi7.move (X:=fun i=>i=cid) (Same.then_set (X:=fun i=>i=cid) (Same.refl _ _) c7.lt (.inl rfl) _) fun i hi _=>⟨hi,hi.2⟩,hil7⟩
      rw[o8,hc0]
     refine⟨kB7.then_set c7.lt (.inl (.inl rfl)) _,fun _=>⟨_,c8,fun i hi => ?_⟩⟩
     have hi:vid (.slice (some ⟨id7,0,none⟩) (c.ins.length+1) cap7) i:=hi
     rcases hv7 i hi with hi | hi
     · rcases hv4 i hi with hi | hi
       · exact .inl hi
       · have:=(kp.trans k1).n
         exact .inr (by omega)
     · have:=kB5.n
       have e:∀ o,(K5.set cid o).n=K5.n:=fun o=>rfl
       rw[e]at hi
       exact .inr (by omega)
theorem tstmt_all:∀ (n:Nat)(y:Stm),SizeOf.sizeOf y<n→WFs y→TSt E H0 tid cid R y:=by
 intro n
 induction n with
 | zero=>intro y hy;exact absurd hy (Nat.not_lt_zero _)
 | succ n ih =>
  rintro⟨kind,at_,x,e,body,els,br,items⟩ hy hwf
  have hwf':=hwf
  simp only[WFs]at hwf'
  simp only[Stm.mk.sizeOf_spec]at hy
  have hb:∀ z∈body,TSt E H0 tid cid R z:=fun z hz=>ih z (by have:=List.sizeOf_lt_of_mem hz;omega) (hwf'.2.2.1.mem z hz)
  have he:∀ z∈els,TSt E H0 tid cid R z:=fun z hz=>ih z (by have:=List.sizeOf_lt_of_mem hz;omega) (hwf'.2.2.2.1.mem z hz)
  have hk10:kind=10→TRg E H0 tid cid R (.mk kind at_ x e body els br items):=by
   intro hk H c v cs S h1 h2 h3 h4
   exact tregion_of hE hT ha hok hgd hwf hk hb h1 h2 h3 h4
  intro H c v cs S h1 h2 h3 h4
  exact tstmt_of hE hT ha hok hgd hwf hb he hk10 h1 h2 h3 h4
theorem tstmts_run {H:Heap}{c:At}{v:Value}(hc:c.cond=ByteArray.empty)(h:CT H0 H tid cid c v){w:Value}{l:List Stm}(gl:LS H0 w l)(hil:c.ins.length+szSs l≤100000)(hwf:WFss l) :
  ∃ H',(run Tryz.prog E).call 20 [.pointer (some ⟨cid,0,none⟩),w] H=some (outF (stsB R c.p c.ins l),H')∧RetT H0 H tid cid c v (stsB R c.p c.ins l) H' :=
 tstmts_of hE hc h gl hil fun y hy=>tstmt_all hE hT ha hok hgd _ y (Nat.lt_succ_self _) (hwf.mem y hy)
end
end Go.Vm.Typing
namespace Go.Vm
open Go Go.Proofs
variable {P:Program} {E:Hooks}
theorem slots_Fr (fn:Func)(args:List Value):slotsAt fn args=Fr (Bs fn.ntmps args) []:=by
 unfold Fr Bs
 rfl
theorem catRun_gives {q:CatQ}{args:List Value}{v:Value}{H:Heap}{Q:Heap→Prop}
  (h:Ends (exList P (run P E).call q.ops.toList (q.ops.toList.drop 1) ⟨putA (Fr (Bs q.fn.ntmps args) []) (some q.d) v,[]⟩ H) fun e s H1=>e = .normal∧s.ds=[]∧Ends ((run P E).code q.rest ⟨s.t,[]⟩ H1) fun e s H2=>(e = .normal∨e = .ret)∧s.ds=[]∧Q H2) :
  ∃ H2,catRun P (run P E) q args v H=some H2∧Q H2:=by
 obtain⟨e,⟨t,ds⟩,H1,e1,rfl,hds,e2,⟨t2,ds2⟩,H2,e3,he,hds2,hQ⟩:=h
 simp only at hds hds2 e3
 subst hds
 subst hds2
 refine⟨H2,?_,hQ⟩
 unfold catRun
 rw[slots_Fr,e1]
 simp only[]
 rw[e3]
 rcases he with rfl | rfl<;>rfl
theorem bodyQ_pan_cat {f:FuncId}{q:CatQ}(hq:catFn P f=some q)(hE:E.has f=false){r:Runs}{rs:List ResultVar}{Q:Out→Heap→Prop}{v:Value}{t args:List Value}{H H2:Heap}(h:catRun P r q args v H=some H2) :
  bodyQ P E r rs Q (.pan v) ⟨t,[(f,args)]⟩ H=resQ Q H2 (exResults P rs t H2):=by
 unfold bodyQ catAt
 simp only[hE,hq,h]
theorem bodyQ_ret_cat {f:FuncId}{q:CatQ}(hq:catFn P f=some q)(hE:E.has f=false){r:Runs}{rs:List ResultVar}{Q:Out→Heap→Prop}{t args:List Value}{H H2:Heap}(h:catRun P r q args .nilIface H=some H2) :
  bodyQ P E r rs Q .ret ⟨t,[(f,args)]⟩ H=resQ Q H2 (exResults P rs t H2):=by
 have hl:exLeave P E r [(f,args)] H=some H2:=by
  unfold catFn at hq
  cases hf:P.funcs[f]? with
  | none=>rw[hf]at hq;cases hq
  | some fn =>
   rw[hf]at hq
   simp only at hq
   cases hb:fn.body with
   | none=>rw[hb]at hq;cases hq
   | some c =>
    rw[hb]at hq
    simp only at hq
    cases hi:isRec P fn c with
    | true=>rw[hi]at hq;cases hq
    | false =>
     rw[hi]at hq
     simp only at hq
     simp only[exLeave,exLate,hE,hf,hb,hi,hq,h]
 unfold bodyQ catAt
 simp only[hl]
end Go.Vm
namespace Go.Vm.Typing
open Go Go.Proofs Go.Vm.Parse Go.Vm.Scope
attribute [local simp] repCells_succ writeAt rd_Fr toList_beq gpe gpn spe gse gsn ne_r0 ne_l0 le_s0 ne_r1 ne_l1 lt_s1 le_s1 ne_r2 ne_l2 lt_s2 le_s2 ne_r3 ne_l3 lt_s3 le_s3 ne_r4 ne_l4 lt_s4 le_s4 ne_r5 ne_l5 lt_s5 le_s5 ne_r6 ne_l6 lt_s6 le_s6 ne_r7 ne_l7 lt_s7 le_s7
noncomputable def qCat:CatQ:=match Tryz.f48.body with
 | some (.seq (.region _ ops _) rest)=>⟨Tryz.f48,ops,4,rest⟩
 | _=>⟨Tryz.f48,#[],0,.skip⟩
theorem qCat_eq:catFn Tryz.prog 48=some qCat:=by kernel_rfl
theorem as_flt (q:Flt):asA Tryz.prog (some (fltV q)) 20 38 true=some (.tuple #[.agg ⟨[.int .i64 q.1,.int .i64 q.2]⟩,.bool true]):=by kernel_rfl
theorem as_nil:asA Tryz.prog (some .nilIface) 20 38 true=some (.tuple #[.agg ⟨[.int .i64 0,.int .i64 0]⟩,.bool false]):=by kernel_rfl
section
variable {E:Hooks} (hE:Plain E)
include hE
theorem caught1_run {H:Heap}{i:Nat}(g:H.get i = .row true 0 1 [.int .i64 0,.int .i64 0])(f:Option Flt) :
  ∃ H',catRun Tryz.prog (run Tryz.prog E) qCat [.pointer (some ⟨i,0,none⟩)] (match f with | some q=>fltV q | none => .nilIface) H=some H'∧Same (fun j=>j=i) H H'∧H'.get i = .row true 0 1 [.int .i64 (fc f),.int .i64 (fa f)]:=by
 have hi:i<H.n:=Heap.lt_of_get g (by simp)
 refine catRun_gives (Q:=fun H'=>Same (fun j=>j=i) H H'∧H'.get i = .row true 0 1 [.int .i64 (fc f),.int .i64 (fa f)]) ?_
 cases f with
 | none =>
  have a:=as_nil
  simp only[]
  simp[qCat,Tryz.f48,a]
  refine⟨(Same.push (fun _=>False) H _).none,?_⟩
  rw[Heap.get_push_lt _ _ hi]
  exact g
 | some q =>
  have a:=as_flt q
  have g1:∀ o,(H.push o).get i = .row true 0 1 [.int .i64 0,.int .i64 0]:=fun o=>by rw[Heap.get_push_lt _ _ hi];exact g
  simp only[]
  simp[qCat,Tryz.f48,a,g1]
  refine⟨Same.then_set (X:=fun j=>j=i) ((Same.push (fun _=>False) H _).none) (Nat.lt_succ_of_lt hi) (.inl rfl) _,?_⟩
  exact Heap.get_set_self _ _ (Nat.lt_succ_of_lt hi)
theorem c_caught (args:List Value)(H:Heap):(run Tryz.prog E).call 18 args H=callB Tryz.prog E Tryz.f18 args H:=call_B Tryz.func18 rfl (by decide +kernel) (hE.no _ rfl rfl) args H
theorem tcaught_run {X:Nat→Prop}{g:FuncId}{bs:List Value}{H K:Heap}{f:Option Flt}(hc:(run Tryz.prog E).call g bs (H.push (.row true 0 1 [.int .i64 0,.int .i64 0]))=some (outF f,K))(hK:Same X (H.push (.row true 0 1 [.int .i64 0,.int .i64 0])) K)(hX:∀ i,X i→i<H.n) :
  ∃ H',(run Tryz.prog E).call 18 [.func (.func g) ⟨[]⟩ ⟨bs⟩] H=some (.val (.agg ⟨[.int .i64 (fc f),.int .i64 (fa f)]⟩),H')∧Same X H H'∧Same (fun i=>i=H.n) K H':=by
 suffices key:Gives ((run Tryz.prog E).call 18 [.func (.func g) ⟨[]⟩ ⟨bs⟩] H) fun o H'=>o = .val (.agg ⟨[.int .i64 (fc f),.int .i64 (fa f)]⟩)∧Same X H H'∧Same (fun i=>i=H.n) K H' by
  obtain⟨o,H',e,rfl,k⟩:=key
  exact⟨H',e,k⟩
 rw[c_caught hE,callB,bodyOf]
 have gK:=hK.at (Heap.get_push_self H (.row true 0 1 [.int .i64 0,.int .i64 0])) (by simp) (fun h=>Nat.lt_irrefl _ (hX _ h))
 have kHK:Same X H K:=Same.trans (Same.push (fun _=>False) H _).none hK
 have hn:H.n<K.n:=Heap.lt_of_get gK (by simp)
 have hEc:E.has 48=false:=hE.no _ rfl rfl
 cases f with
 | none =>
  simp only[outF]at hc
  simp[Tryz.f18,hc,exDefer,gK]
  have gK2:(K.set H.n (.row true 0 1 [.int .i64 0,.int .i64 0])).get H.n = .row true 0 1 [.int .i64 0,.int .i64 0]:=Heap.get_set_self _ _ hn
  have kK2:Same X H (K.set H.n (.row true 0 1 [.int .i64 0,.int .i64 0])):=kHK.then_set hn (.inr (Nat.le_refl _)) _
  obtain⟨H2,e2,k2,g2⟩:=caught1_run hE gK2 none
  rw[bodyQ_ret_cat qCat_eq hEc e2]
  simp[g2]
  exact⟨kK2.then k2 fun i hi => .inr (Nat.le_of_eq hi.symm),(Same.set (X:=fun i=>i=H.n) K hn rfl _).trans k2⟩
 | some q =>
  simp only[outF]at hc
  simp[Tryz.f18,hc,exDefer]
  obtain⟨H2,e2,k2,g2⟩:=caught1_run hE gK (some q)
  rw[bodyQ_pan_cat qCat_eq hEc e2]
  simp[g2]
  exact⟨kHK.then k2 fun i hi => .inr (Nat.le_of_eq hi.symm),k2⟩
end
section
variable {E:Hooks} (hE:Plain E)
include hE
variable {H0:Heap} {rtid cid:Nat} {R:RT}
variable {col:Nat→Nat} {v1 v2 v3 v4 v5 v6:Value} (hR:RRef H0 col rtid v1 v2 v3 v4 v5 v6 R) (hok:ROK R) (hgd:RGood R)
include hR hok hgd
end
theorem szPs_len:∀ l:List Prc,l.length≤szPs l
 | []=>Nat.zero_le _
 | p :: l=>by have:=szPs_len l;simp only[szPs,szP,List.length_cons];omega
theorem szPs_mem {b:Prc}:∀ {l:List Prc},b∈l→szSs b.body≤szPs l
 | a :: l, h => by
  simp only[szPs]
  rcases List.mem_cons.1 h with rfl | h
  · simp only[szP];omega
  · have:=szPs_mem h;omega
section
variable {E:Hooks} (hE:Plain E)
include hE
end
end Go.Vm.Typing
namespace Go.Vm
open Go.RowKit
section
variable {P:Program} {E:Hooks}
def midP (i:Nat)(J:List Value→Heap→Prop)(Q:QA):QA:=fun e s H=>match e with
 | .exit j=>j=i∧s.ds=[]∧J s.t H
 | .ret=>Q .ret s H
 | .pan v=>Q (.pan v) s H
 | _=>False
@[simp] theorem midP_exit (i:Nat)(J:List Value→Heap→Prop)(Q:QA)(j:Nat)(s:St)(H:Heap):midP i J Q (.exit j) s H=(j=i∧s.ds=[]∧J s.t H):=id rfl
@[simp] theorem midP_ret (i:Nat)(J:List Value→Heap→Prop)(Q:QA)(s:St)(H:Heap):midP i J Q .ret s H=Q .ret s H:=id rfl
@[simp] theorem midP_pan (i:Nat)(J:List Value→Heap→Prop)(Q:QA)(v:Value)(s:St)(H:Heap):midP i J Q (.pan v) s H=Q (.pan v) s H:=id rfl
theorem loop_mid3 {c:Code}{t0:List Value}{H0:Heap}{i:Nat}{k:St→Heap→ResA}{Q:QA}{hk:Held k}(J:List Value→Heap→Prop)(I:Nat→List Value→Heap→Prop)(m0:Nat)(h0:I m0 t0 H0)
  (step:∀ m t H,Kept (dstsOf c) t0 t→I m t H→Ends ((run P E).code c ⟨Fr t [],[]⟩ H) (roundQ (dstsOf c) t0 I m (midP i J Q)))
  (after:∀ t H,Kept (dstsOf c) t0 t→J t H→Ends (k ⟨Fr t [],[]⟩ H) Q):Ends ((run P E).code (.loop c) ⟨t0,[]⟩ H0) (blockQ i (bindQ k Q hk)):=by
 refine loop_ends (fun m t H=>Kept (dstsOf c) t0 t∧I m t H) ?_ m0 t0 H0 ⟨Kept.refl _ _,h0⟩
 rintro m t H ⟨hk,hI⟩
 obtain⟨e,s,H',h1,h2⟩:=step m t H hk hI
 rw[Fr_nil]at h1
 refine⟨e,s,H',h1,?_⟩
 cases e with
 | normal=>rw[roundQ_normal]at h2;obtain⟨h3,m',h4,h5⟩:=h2;exact .inl ⟨rfl,h3,m',h4,hk.trans (kept_run h1),h5⟩
 | exit j =>
  rw[roundQ_exit,midP_exit]at h2
  refine .inr ⟨(fun h=>by cases h),?_⟩
  obtain⟨rfl,h3,h4⟩:=h2
  obtain⟨t',ds⟩:=s
  simp only at h3
  subst h3
  rw[blockQ_exit,if_pos rfl,bindQ_normal]
  have:=after t' H' (hk.trans (kept_run h1)) h4
  rwa [Fr_nil]at this
 | goto j=>rw[roundQ_goto]at h2;exact h2.elim
 | ret=>rw[roundQ_ret,midP_ret]at h2;exact .inr ⟨(fun h=>by cases h),by rw[blockQ_ret,bindQ_ret];exact h2⟩
 | pan v=>rw[roundQ_pan,midP_pan]at h2;exact .inr ⟨(fun h=>by cases h),by rw[blockQ_pan,bindQ_pan];exact h2⟩
end
end Go.Vm
namespace Go.Vm.Typing
open Go Go.Proofs Go.Vm.Parse Go.Vm.Scope
attribute [local simp] repCells_succ writeAt rd_Fr toList_beq gpe gpn spe gse gsn ne_r0 ne_l0 le_s0 ne_r1 ne_l1 lt_s1 le_s1 ne_r2 ne_l2 lt_s2 le_s2 ne_r3 ne_l3 lt_s3 le_s3 ne_r4 ne_l4 lt_s4 le_s4 ne_r5 ne_l5 lt_s5 le_s5 ne_r6 ne_l6 lt_s6 le_s6 ne_r7 ne_l7 lt_s7 le_s7
def PtI (H0:Heap)(R:RT)(l:List Prc)(m:Nat)(t:List Value)(K:Heap):Prop :=
 ∃ k:Nat,k≤l.length∧m=l.length - k∧rd t 9 = .int .i64 k∧Same (fun _=>False) H0 K∧prcsB R k (l.drop k)=prcsB R 0 l
theorem CT.fresh {H0 K:Heap}(k:Same (fun _=>False) H0 K)(tid:Nat)(p:Int)(o:AObj) :
  CT H0 ((K.push o).push (.row true 0 1 [.pointer (some ⟨tid,0,none⟩),.int .i64 p,.slice none 0 0,.string ByteArray.empty])) tid (K.n+1) ⟨p,[],ByteArray.empty⟩ (.slice none 0 0) :=
 ⟨((k.then_push _).then_push _).none,by have:=k.n;omega,Heap.get_push_self (K.push o) _,.inl ⟨0,rfl,rfl,rfl⟩,Nat.zero_le _⟩
theorem CT.fresh1 {H0 K:Heap}(k:Same (fun _=>False) H0 K)(tid:Nat)(p:Int) :
  CT H0 (K.push (.row true 0 1 [.pointer (some ⟨tid,0,none⟩),.int .i64 p,.slice none 0 0,.string ByteArray.empty])) tid K.n ⟨p,[],ByteArray.empty⟩ (.slice none 0 0) :=
 ⟨(k.then_push _).none,k.n,Heap.get_push_self K _,.inl ⟨0,rfl,rfl,rfl⟩,Nat.zero_le _⟩
section
variable {E:Hooks} (hE:Plain E)
include hE
theorem c_tcheck1 (args:List Value)(H:Heap):(run Tryz.prog E).call 19 args H=callB Tryz.prog E Tryz.f19 args H:=call_B Tryz.func19 rfl (by decide +kernel) (hE.no _ rfl rfl) args H
theorem c_tcheck (args:List Value)(H:Heap):(run Tryz.prog E).call 7 args H=callB Tryz.prog E Tryz.f7 args H:=call_B Tryz.func7 rfl (by decide +kernel) (hE.no _ rfl rfl) args H
variable {R:RT} {T:Tab} (ha:Scope.Agree T R) (hok:TOK T) (hgd:RGood R)
include ha hok hgd
theorem tcheck1_run {H0:Heap}{tid:Nat}{col:Nat→Nat}{nid pid rid:Nat}{v1 v2 v3 v4 v5:Value}(hT:RTab H0 col tid nid pid rid v1 v2 v3 v4 v5 T){S:Nat→Prop}{p:Src}{cs:List Value}(hs:RSrc H0 S p cs){n:Nat}(hsrc:SrcOK p n)(hn:n≤100000)
  {si ti:Nat} (gs:H0.get si = .row true 0 1 cs) (gt:H0.get ti = .row true 0 1 [.pointer (some ⟨tid,0,none⟩)]) :
  ∃ H',(run Tryz.prog E).call 19 [.pointer (some ⟨si,0,none⟩),.pointer (some ⟨ti,0,none⟩)] H0=some (outF (checkB R p),H')∧Same (fun _=>False) H0 H':=by
 suffices key:Gives ((run Tryz.prog E).call 19 [.pointer (some ⟨si,0,none⟩),.pointer (some ⟨ti,0,none⟩)] H0) fun o H'=>o=outF (checkB R p)∧Same (fun _=>False) H0 H' by
  obtain⟨o,H',e,rfl,k⟩:=key
  exact⟨H',e,k⟩
 obtain⟨w1,w2,w3,w4,rfl,g1,g2,g3,g4⟩:=hs
 obtain⟨b1,rfl⟩:=repDcl.G_slice g1
 obtain⟨b2,rfl⟩:=repPrc.G_slice g2
 obtain⟨b3,rfl⟩:=repItm.G_slice g3
 obtain⟨b4,rfl⟩:=repStm.G_slice g4
 simp only[sr5]at gs
 have hsz:=hsrc.size
 have zp:=szPs_len p.procs
 have zb:=szSs_len p.body
 have fin:∀ {K K':Heap} {cid:Nat} {c:At} {f:Option Flt},Same (fun _=>False) H0 K→H0.n≤cid→RetT H0 K tid cid c (.slice none 0 0) f K'→Same (fun _=>False) H0 K':=fun h1 h2 h3 =>
  h1.then h3.1 fun i hi=>by
   rcases hi with rfl | hi
   · exact .inr h2
   · exact hi.elim
 rw[c_tcheck1 hE,callB,bodyOf]
 simp[Tryz.f19,gs]
 refine loop_mid3 (fun t K=>Same (fun _=>False) H0 K∧prcsB R 0 p.procs=none) (PtI H0 R p.procs) p.procs.length ?_ ?_ ?_
 · exact⟨0,Nat.zero_le _,by simp,by simp,Same.refl _ _,by simp⟩
 · rintro m t K hkk ⟨k,hkl,rfl,g9,kK,hg⟩
   have ht:t.length=35:=hkk.1.trans (by simp[len_Bs])
   have hh:=hkk.all [0,1,7,8] (by decide +kernel)
   simp at hh
   obtain⟨u0,u1,u7,u8⟩:=hh
   have w1:IntKind.i64.wrap ((k:Int)+1)=(k:Int)+1:=wrap64 _ (by omega) (by omega)
   rcases Nat.lt_or_ge k p.procs.length with hlt | hge
   · obtain⟨id,tl,cs,e1,_,hid,hrow,hcl,hget,hle⟩:=repPrc.G_at g2 hlt
     cases e1
     rw[List.drop_eq_getElem_cons hlt,prcsB]at hg
     have wf:=hsrc.procs _ (List.getElem_mem hlt)
     have sz:=szPs_mem (List.getElem_mem hlt)
     generalize p.procs[k]=pr at *
     obtain⟨y1,y2,y3,hq,_,_,gb⟩:=hget
     simp only[repPrc,pc5]at hq hcl hrow hle
     have gtK:=kK.at gt (by simp) (fun h=>h)
     have hrK:=kK.at hrow (by simp) (fun h=>h)
     have ls:=LS.of gb
     obtain⟨yb,rfl⟩:=repStm.G_slice gb
     have gtP:∀ o,(K.push o).get ti = .row true 0 1 [.pointer (some ⟨tid,0,none⟩)]:=fun o=>(Heap.get_push_lt K o (Heap.lt_of_get gtK (by simp))).trans gtK
     have gqP:∀ o o',((K.push o).push o').get K.n=o:=fun o o'=>(Heap.get_push_lt (K.push o) o' (Nat.lt_succ_self _)).trans (Heap.get_push_self K o)
     have c2:=CT.fresh kK tid ((k:Int)+1) (.row true 0 1 [.int .i64 pr.at_,.string pr.name,y1,y2,.slice yb pr.body.length pr.body.length])
     have kP:Same (fun _=>False) H0 ((K.push (.row true 0 1 [.int .i64 pr.at_,.string pr.name,y1,y2,.slice yb pr.body.length pr.body.length])).push (.row true 0 1 [.pointer (some ⟨tid,0,none⟩),.int .i64 ((k:Int)+1),.slice none 0 0,.string ByteArray.empty])):=(kK.then_push _).then_push _
     obtain⟨K3,e3,r3⟩:=tstmts_run hE hT ha hok hgd rfl c2 ls (by simp;omega) wf
     have k3:=fin kP (by have:=kK.n;omega) r3
     cases hb:stsB R ((k:Int)+1) [] pr.body with
     | some q =>
      rw[hb,Option.some_or]at hg
      rw[hb]at e3
      simp only[outF]at e3
      simp[ht,u0,u1,u7,u8,g9,hlt,hrK,hcl,hle,hq,gtK,w1,gtP,gqP,e3]
      unfold checkB
      rw[← hg]
      exact⟨rfl,k3⟩
     | none =>
      rw[hb,Option.none_or]at hg
      rw[hb]at e3
      simp only[outF]at e3
      simp[ht,u0,u1,u7,u8,g9,hlt,hrK,hcl,hle,hq,gtK,w1,gtP,gqP,e3]
      exact⟨p.procs.length - (k+1),by omega,k+1,by omega,rfl,by simp[ht],k3,hg⟩
   · have:k=p.procs.length:=by omega
     subst this
     simp[prcsB]at hg
     simp[ht,u0,u1,u7,u8,g9]
     exact⟨kK,hg.symm⟩
 · rintro t K hkk ⟨kK,hq⟩
   have ht:t.length=35:=hkk.1.trans (by simp[len_Bs])
   have hh:=hkk.all [0,1] (by decide +kernel)
   simp at hh
   obtain⟨u0,u1⟩:=hh
   have gsK:=kK.at gs (by simp) (fun h=>h)
   have gtK:=kK.at gt (by simp) (fun h=>h)
   have c0:=CT.fresh1 kK tid 0
   have gsP:∀ o,(K.push o).get si = .row true 0 1 [.string p.name,.slice b1 p.decls.length p.decls.length,.slice b2 p.procs.length p.procs.length,.slice b3 p.claims.length p.claims.length,.slice b4 p.body.length p.body.length]:=fun o=>(Heap.get_push_lt K o (Heap.lt_of_get gsK (by simp))).trans gsK
   obtain⟨K1,e1,k1⟩:=titems_run hE hT ha hok hgd c0 g3 (by omega)
   have gs1:=k1.at (gsP _) (by simp) (fun h=>h)
   have c1:=c0.keep k1
   have kB:Same (fun _=>False) H0 K1:=(kK.then_push _).trans k1
   obtain⟨K2,e2,r2⟩:=tstmts_run hE hT ha hok hgd rfl c1 (LS.of g4) (by simp;omega) hsrc.body
   have k2:=fin kB kK.n r2
   unfold checkB
   rw[hq,Option.none_or]
   cases hi:itemsB R 0 [] p.claims with
   | some q =>
    rw[hi]at e1
    simp only[outF]at e1
    simp[ht,u0,u1,gsK,gtK,gsP,e1,outF]
    exact kB
   | none =>
    rw[hi]at e1
    simp only[outF]at e1
    cases hb:stsB R 0 [] p.body with
    | some q =>
     rw[hb]at e2
     simp only[outF]at e2
     simp[ht,u0,u1,gsK,gtK,gsP,e1,gs1,e2,outF]
     exact k2
    | none =>
     rw[hb]at e2
     simp only[outF]at e2
     simp[ht,u0,u1,gsK,gtK,gsP,e1,gs1,e2,outF]
     exact k2
theorem tcheck_run {H:Heap}{tid:Nat}{col:Nat→Nat}{nid pid rid:Nat}{v1 v2 v3 v4 v5:Value}(hT:RTab H col tid nid pid rid v1 v2 v3 v4 v5 T){S:Nat→Prop}{p:Src}{cs:List Value}(hs:RSrc H S p cs){n:Nat}(hsrc:SrcOK p n)(hn:n≤100000) :
  ∃ H',(run Tryz.prog E).call 7 [.agg ⟨cs⟩,.pointer (some ⟨tid,0,none⟩)] H=some (.val (.agg ⟨[.int .i64 (fc (checkB R p)),.int .i64 (fa (checkB R p))]⟩),H')∧Same (fun _=>False) H H':=by
 suffices key:Gives ((run Tryz.prog E).call 7 [.agg ⟨cs⟩,.pointer (some ⟨tid,0,none⟩)] H) fun o H'=>o = .val (.agg ⟨[.int .i64 (fc (checkB R p)),.int .i64 (fa (checkB R p))]⟩)∧Same (fun _=>False) H H' by
  obtain⟨o,H',e,rfl,k⟩:=key
  exact⟨H',e,k⟩
 obtain⟨y,a1,a2,a3,b1,b2,b3,c1,c2,c3,d1,d2,d3,rfl⟩:=hs.slices
 have kb:Same (fun _=>False) H (((H.push (.row true 0 1 (sr5 y (.slice a1 a2 a3) (.slice b1 b2 b3) (.slice c1 c2 c3) (.slice d1 d2 d3)))).push (.row true 0 1 [.pointer (some ⟨tid,0,none⟩)])).push (.row true 0 1 [.int .i64 0,.int .i64 0])):=((Same.push _ _ _).then_push _).then_push _
 have gs:(((H.push (.row true 0 1 (sr5 y (.slice a1 a2 a3) (.slice b1 b2 b3) (.slice c1 c2 c3) (.slice d1 d2 d3)))).push (.row true 0 1 [.pointer (some ⟨tid,0,none⟩)])).push (.row true 0 1 [.int .i64 0,.int .i64 0])).get H.n = .row true 0 1 (sr5 y (.slice a1 a2 a3) (.slice b1 b2 b3) (.slice c1 c2 c3) (.slice d1 d2 d3)):=by
  rw[Heap.get_push,if_neg (by simp),Heap.get_push,if_neg (by simp),Heap.get_push_self]
 have gt:(((H.push (.row true 0 1 (sr5 y (.slice a1 a2 a3) (.slice b1 b2 b3) (.slice c1 c2 c3) (.slice d1 d2 d3)))).push (.row true 0 1 [.pointer (some ⟨tid,0,none⟩)])).push (.row true 0 1 [.int .i64 0,.int .i64 0])).get (H.n+1) = .row true 0 1 [.pointer (some ⟨tid,0,none⟩)]:=by
  rw[Heap.get_push,if_neg (by simp)];exact Heap.get_push_self (H.push _) _
 have gr:(((H.push (.row true 0 1 (sr5 y (.slice a1 a2 a3) (.slice b1 b2 b3) (.slice c1 c2 c3) (.slice d1 d2 d3)))).push (.row true 0 1 [.pointer (some ⟨tid,0,none⟩)])).push (.row true 0 1 [.int .i64 0,.int .i64 0])).get (H.n+2) = .row true 0 1 [.int .i64 0,.int .i64 0]:=Heap.get_push_self ((H.push _).push _) _
 rw[c_tcheck hE,callB,bodyOf]
 simp only[sr5]at *
 simp[Tryz.f7]
 generalize hHb:((H.push (.row true 0 1 [.string y,.slice a1 a2 a3,.slice b1 b2 b3,.slice c1 c2 c3,.slice d1 d2 d3])).push (.row true 0 1 [.pointer (some ⟨tid,0,none⟩)])).push (.row true 0 1 [.int .i64 0,.int .i64 0])=Hb at *
 have kc:Same (fun _=>False) H (Hb.push (.row true 0 1 [.int .i64 0,.int .i64 0])):=kb.then_push _
 have kq:Same (fun _=>False) Hb (Hb.push (.row true 0 1 [.int .i64 0,.int .i64 0])):=Same.push _ _ _
 obtain⟨K,e1,k1⟩:=tcheck1_run hE ha hok hgd (hT.keep kc fun _ h=>h.elim) (hs.move kc fun j hj hlt=>⟨hj,fun h=>h⟩) hsrc hn (kq.at gs (by simp) fun h=>h) (kq.at gt (by simp) fun h=>h)
 obtain⟨K2,e2,k2,_⟩:=tcaught_run hE e1 k1 fun i h=>h.elim
 have g2:=k2.at gr (by simp) fun h=>h
 have hn2:H.n+2<K2.n:=Heap.lt_of_get g2 (by simp)
 have g3:∀ o,(K2.set (H.n+2) o).get (H.n+2)=o:=fun o=>Heap.get_set_self _ _ hn2
 simp[e2,g2,g3]
 exact (kb.trans k2).then_set hn2 (.inr (by omega)) _
end
end Go.Vm.Typing
