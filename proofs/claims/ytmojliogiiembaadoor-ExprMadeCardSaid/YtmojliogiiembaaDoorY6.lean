/- What is proved: the maker of sources makes a text, whatever its numbers are. What is proved: parts of bytes, and bytes put together, in a region in which objects are made in any order. What is proved: the maker's 'Mixed', as far as laws need it. What is proved: the reader's 'stmt', if its 'block' and 'branch' read. What is proved: the reader's statements for any fuel; its 'size'. What is defined and proved: declarations; the reader's 'decls'. What is defined and proved: procedures in plain words, and in the heap; the reader's 'proc'. What is proved: the reader's 'proc'. What is defined and proved: sources in plain words, and in the heap; 'Parse'. What is proved: 'Parse', of any source that is no longer than may be. What is proved: 'All' of bytes that a law makes. What is proved: 'ExprMade' hands back true, whatever the input. -/
import Derived.Test.YtmojliogiiembaaDoorY5
set_option maxRecDepth 100000
set_option maxHeartbeats 4000000
set_option linter.unusedSimpArgs false
set_option linter.unusedVariables false
set_option linter.unusedSectionVars false
namespace Go.Vm.Make
open Go Go.Proofs Go.Vm.Parse
attribute [local simp] repCells_succ writeAt rd_Fr toList_beq gpe gpn spe gse gsn ne_r0 ne_l0 le_s0 op_index
theorem MKx.turn2 {H0 H:Heap}{mid:Nat}{nv:Value}{N:List Int}{lo hi:Nat}{p:Int}{inn:ByteArray}(h:MKx H0 H mid nv N lo hi p inn):∃ (a:Nat)(left:Int)(b:Option Addr)(n:Nat),H.get mid = .row true 0 1 [nv,.int .i64 a,.slice b n n,.int .i64 p,.string inn,.int .i64 left] ∧
  ∀ (p':Int),MKx H0 (H.set mid (.row true 0 1 [nv,.int .i64 a,.slice b n n,.int .i64 p',.string inn,.int .i64 left])) mid nv N lo hi p' inn:=by
 obtain⟨a,left,ov,out,hm⟩:=h
 obtain⟨b,rfl⟩:=hm.go.slice
 exact⟨a,left,b,out.length,hm.obj,fun p'=>⟨a,left,_,out,MK.turn hm hm.ha p' inn left⟩⟩
def bX:Nat:=240+bS 2
def TxI (H0:Heap)(mid:Nat)(nv:Value)(N:List Int)(lo hi:Nat)(m:Nat)(t:List Value)(K:Heap):Prop :=
 ∃ i:Nat,i≤3∧m=3 - i∧rd t 4 = .int .i64 ((i:Int)+1)∧∃ p,MKx H0 K mid nv N lo (hi+i * bX) p ByteArray.empty
section
variable {E:Hooks} (hE:Plain E) {H0:Heap} {mid:Nat} {nv:Value} {N:List Int} (hN:SL H0 nv N) (hl:N.length≤100000)
include hE
theorem gives_putB {H:Heap}{lo hi:Nat}{p:Int}{inn:ByteArray}(h:MKx H0 H mid nv N lo hi p inn)(B:Nat){s:ByteArray}{Q:Out→Heap→Prop}(hs:s.size≤B)(hb:hi+B≤900000000)
  (k:∀ H',MKx H0 H' mid nv N lo (hi+B) p inn→Q (.val (.tuple #[])) H'):Gives ((run Tryd.prog E).call 44 [.pointer (some ⟨mid,0,none⟩),.string s] H) Q:=by
 obtain⟨H',e,h'⟩:=put_ok hE h s (by omega)
 exact⟨_,_,e,k H' ((h'.low (Nat.le_add_right _ _)).more (by omega))⟩
theorem gives_put1 {H:Heap}{lo hi:Nat}{p:Int}{inn:ByteArray}(h:MKx H0 H mid nv N lo hi p inn)(B:Nat){s:ByteArray}{Q:Out→Heap→Prop}(h1:1≤s.size)(hs:s.size≤B)(hb:hi+B≤900000000)
  (k:∀ H',MKx H0 H' mid nv N 1 (hi+B) p inn→Q (.val (.tuple #[])) H'):Gives ((run Tryd.prog E).call 44 [.pointer (some ⟨mid,0,none⟩),.string s] H) Q:=by
 obtain⟨H',e,h'⟩:=put_ok hE h s (by omega)
 exact⟨_,_,e,k H' ((h'.low (by omega)).more (by omega))⟩
include hN hl
theorem stmts_ok {p:Int}(hp0:0≤p)(hp3:p≤3):∀ d:Nat,d≤3→StmtOK E H0 mid nv N p 47 d (bS d):=by
 intro d
 induction d with
 | zero=>exact fun hd=>stmts_of hE hN hl (stmt_of hE hN hl hp0 hp3 hd (fun e he=>by cases he))
 | succ d ih=>exact fun hd=>stmts_of hE hN hl (stmt_of hE hN hl hp0 hp3 hd (fun e he=>by cases he;exact ih (by omega)))
theorem gives_stmts (d:Nat)(hd:d≤3){H:Heap}{lo hi:Nat}{p:Int}{inn:ByteArray}(h:MKx H0 H mid nv N lo hi p inn)(hin:InOK inn)(hp0:0≤p)(hp3:p≤3){z:Int}{Q:Out→Heap→Prop}(hz:z=d)(hb:hi+bS d≤800000000)
  (k:∀ H',MKx H0 H' mid nv N lo (hi+bS d) p inn→Q (.val (.tuple #[])) H'):Gives ((run Tryd.prog E).call 47 [.pointer (some ⟨mid,0,none⟩),.int .i64 z] H) Q:=by
 subst hz
 exact stmts_ok hE hN hl hp0 hp3 d hd h hin hb k
end
section
variable {E:Hooks} (hE:Plain E)
include hE
theorem c_mtext (args:List Value)(H:Heap):(run Tryd.prog E).call 19 args H=callB Tryd.prog E Tryd.f19 args H:=call_B Tryd.func19 rfl (by decide +kernel) (hE.no _ rfl rfl) args H
theorem text_ok {H:Heap}{nv:Value}{N:List Int}(hN:SL H nv N)(hl:N.length≤100000):∃ (b:Option Addr)(out:List UInt8)(H':Heap),(run Tryd.prog E).call 19 [nv] H=some (.val (.slice b out.length out.length),H')∧Same (fun _=>False) H H'∧OutS H' (fun i=>H.n≤i) (.slice b out.length out.length) out∧1≤out.length∧out.length≤100000000:=by
 suffices key:Gives ((run Tryd.prog E).call 19 [nv] H) fun o H'=>∃ (b:Option Addr) (out:List UInt8),o = .val (.slice b out.length out.length)∧Same (fun _=>False) H H'∧OutS H' (fun i=>H.n≤i) (.slice b out.length out.length) out∧1≤out.length∧out.length≤100000000 by
  obtain⟨o,H',e,b,out,rfl,k⟩:=key
  exact⟨b,out,H',e,k⟩
 obtain⟨b0,n0,c0,rfl⟩:=hN.slice
 have hbX:bX=240+bS 2:=rfl
 have hS2:bS 2≤2000000:=by decide +kernel
 have hS1:bS 1≤1000000:=by decide +kernel
 have hF:bF≤10000:=by decide +kernel
 have c1:(⟨#[112,114,111,99,101,100,117,114,101,32,112]⟩:ByteArray).size=11:=rfl
 have c2:(⟨#[40,120,41,59,10,98,101,103,105,110,32]⟩:ByteArray).size=11:=rfl
 have h:MKx H (H.push (.row true 0 1 [.slice b0 n0 c0,.int .i64 ((0:Nat):Int),.slice none 0 0,.int .i64 0,.string ByteArray.empty,.int .i64 60])) H.n (.slice b0 n0 c0) N 0 0 0 ByteArray.empty :=
  ⟨0,60,.slice none 0 0,[],Same.push _ _ _,Nat.le_refl _,Heap.get_push_self _ _,Nat.zero_le _,.inl ⟨rfl,rfl⟩,Nat.le_refl _,Nat.le_refl _⟩
 rw[c_mtext hE,callB,bodyOf]
 simp[Tryd.f19]
 refine gives_put1 hE h 80 (by decide) (by decide) (by omega) fun _ h => ?_
 simp
 refine gives_next hE hN hl h (by omega) (by omega) fun r H2 r1 r2 h => ?_
 obtain⟨s,hs,e⟩:=itoa_ok hE (1+r) (by omega) (by omega) H2
 simp[wrap64 (1+r) (by omega) (by omega),e]
 refine gives_putB hE h 80 (by omega) (by omega) fun _ h => ?_
 simp
 refine gives_putB hE h 80 (by decide) (by omega) fun _ h => ?_
 simp
 refine gives_next hE hN hl h (by omega) (by omega) fun r H2 r1 r2 h => ?_
 obtain⟨s,hs,e⟩:=itoa_ok hE (1+r) (by omega) (by omega) H2
 simp[wrap64 (1+r) (by omega) (by omega),e]
 refine gives_putB hE h 80 (by omega) (by omega) fun _ h => ?_
 simp
 refine gives_putB hE h 80 (by decide) (by omega) fun _ h => ?_
 simp
 refine gives_num hE hN hl h (by omega) (by omega) (by omega) fun _ h => ?_
 simp
 refine gives_putB hE h 80 (by decide) (by omega) fun K0 h => ?_
 simp
 refine loop_mid2 (fun t K=>∃ p,MKx H K H.n (.slice b0 n0 c0) N 1 (600+3 * bX) p ByteArray.empty) (TxI H H.n (.slice b0 n0 c0) N 1 600) 3 ?_ ?_ ?_
 · exact⟨0,by omega,rfl,by simp,0,h.more (by omega)⟩
 · rintro m t K hkk ⟨i,hi',rfl,g4,p,h⟩
   have ht:t.length=77:=hkk.1.trans (by simp[len_Bs])
   have hh:=hkk.all [0,3] (by decide +kernel)
   simp at hh
   obtain⟨u0,u3⟩:=hh
   have him:i * bX≤3 * bX:=Nat.mul_le_mul_right _ hi'
   rcases Nat.lt_or_ge i 3 with hlt | hge
   · obtain⟨a,left,b,n,o1,htn⟩:=h.turn2
     have h:=htn ((i:Int)+1)
     have w1:IntKind.i64.wrap ((i:Int)+1+1)=(i:Int)+1+1:=wrap64 _ (by omega) (by omega)
     obtain⟨s,hs,e⟩:=itoa_ok hE ((i:Int)+1) (by omega) (by omega) (K.set H.n (.row true 0 1 [.slice b0 n0 c0,.int .i64 a,.slice b n n,.int .i64 ((i:Int)+1),.string ByteArray.empty,.int .i64 left]))
     have f1:=fun a b=>bin_cat2 a b ⟨#[112,114,111,99,101,100,117,114,101,32,112]⟩ s (by rw[c1];omega)
     have f2:=fun a b=>bin_cat2 a b (⟨#[112,114,111,99,101,100,117,114,101,32,112]⟩++s) ⟨#[40,120,41,59,10,98,101,103,105,110,32]⟩ (by rw[ByteArray.size_append,c1,c2];omega)
     simp[ht,u3,g4,o1,show (i:Int)+1≤3 by omega,e,f1,f2]
     refine gives_putB hE h 80 (s:=⟨#[112,114,111,99,101,100,117,114,101,32,112]⟩++s ++ ⟨#[40,120,41,59,10,98,101,103,105,110,32]⟩) (by simp only[ByteArray.size_append,c1,c2];omega) (by omega) fun _ h => ?_
     simp[ht,u3]
     refine gives_stmts hE hN hl 2 (by omega) h (.inl rfl) (by omega) (by omega) rfl (by omega) fun _ h => ?_
     simp[ht,u3]
     refine gives_putB hE h 80 (by decide) (by omega) fun _ h => ?_
     simp[ht,g4,w1]
     exact⟨3 - (i+1),by omega,i+1,by omega,rfl,by simp[ht],_,h.more (by rw[Nat.add_mul];omega)⟩
   · simp[ht,g4,show ¬(i:Int)+1≤3 by omega]
     exact⟨p,h.more (by omega)⟩
 · rintro t K hkk ⟨p,h⟩
   have ht:t.length=77:=hkk.1.trans (by simp[len_Bs])
   have hh:=hkk.all [3] (by decide +kernel)
   simp at hh
   obtain⟨a,left,b,n,o1,htn⟩:=h.turn2
   have h:=htn 0
   simp[ht,hh,o1]
   refine gives_putB hE h 80 (by decide) (by omega) fun _ h => ?_
   simp[ht,hh]
   refine gives_next hE hN hl h (by omega) (by omega) fun r H2 r1 r2 h => ?_
   obtain⟨s,hs,e⟩:=itoa_ok hE (1+r) (by omega) (by omega) H2
   simp[ht,hh,wrap64 (1+r) (by omega) (by omega),e]
   refine gives_putB hE h 80 (by omega) (by omega) fun _ h => ?_
   simp[ht,hh]
   refine gives_putB hE h 80 (by decide) (by omega) fun _ h => ?_
   simp[ht,hh]
   refine gives_stmts hE hN hl 2 (by omega) h (.inl rfl) (by omega) (by omega) rfl (by omega) fun _ h => ?_
   simp[ht,hh]
   refine gives_putB hE h 80 (by decide) (by omega) fun _ h => ?_
   simp[ht,hh]
   refine gives_fork hE hN hl h (.inl rfl) (by omega) (by omega) (by omega) fun _ h => ?_
   simp[ht,hh]
   refine gives_putB hE h 80 (by decide) (by omega) fun _ h => ?_
   simp[ht,hh]
   refine gives_stmts hE hN hl 1 (by omega) h (.inl rfl) (by omega) (by omega) rfl (by omega) fun _ h => ?_
   simp[ht,hh]
   refine gives_putB hE h 80 (by decide) (by omega) fun K9 h => ?_
   obtain⟨a9,left9,ov9,out9,hm⟩:=h
   obtain⟨b9,rfl⟩:=hm.go.slice
   have o9:=hm.obj
   simp[ht,hh,o9]
   exact⟨b9,out9,⟨rfl,rfl⟩,⟨hm.kp.n,fun i hi _=>hm.kp.get i hi (Nat.not_le.2 hi)⟩,hm.go.move (Same.refl (fun _=>False) _) fun i hi _=>⟨hi.1,fun h=>h⟩,hm.lo,by have:=hm.hi;omega⟩
end
end Go.Vm.Make
namespace Go.Vm.Make
open Go Go.Proofs Go.Vm.Parse
theorem cut_pre {id tl len r k:Nat}{cs:List Value}{H:Heap}(hg:H.get id = .row true tl 1 cs)(hk:k≤len) :
  cutR id 0 len len 1 none (some (.int .i64 (k:Int))) r H=some (.slice (some ⟨id,0,none⟩) k len,H):=by
 unfold cutR
 simp only[boundOf,hg]
 rw[if_pos ⟨by omega,by omega,by omega⟩]
 cases tl with
 | zero=>simp
 | succ tl=>simp
theorem cut_suf {id tl len r k:Nat}{cs:List Value}{H:Heap}(hg:H.get id = .row true tl 1 cs)(htl:tl≤1)(hr:r<H.n)(hrd:r≠id)(hcs:cs.length=len)(hk:k≤len) :
  ∃ id' off' H',cutR id 0 len len 1 (some (.int .i64 (k:Int))) none r H=some (.slice (some ⟨id',off',none⟩) (len - k) (len - k),H')∧(id'=id∨id'=r)∧H'.n=H.n∧(∀ j,j≠r→H'.get j=H.get j) ∧
   cellsOf H' 1 (len - k) (.slice (some ⟨id',off',none⟩) (len - k) (len - k))=some (cs.drop k):=by
 unfold cutR
 simp only[boundOf,hg]
 rw[if_pos ⟨by omega,by omega,by omega⟩]
 have hd:(cs.drop k).take (len - k)=cs.drop k:=List.take_of_length_le (by rw[List.length_drop];omega)
 rcases (show tl=0∨tl=1 by omega)with rfl | rfl
 · by_cases c:len=k
   · subst c
     refine⟨id,0,H,by simp,.inl rfl,rfl,fun _ _=>rfl,?_⟩
     simp[hg,List.drop_eq_nil_of_le (show cs.length≤len by omega)]
   · refine⟨id,k,H,by simp[show ¬(len:Int)=k by omega],.inl rfl,rfl,fun _ _=>rfl,?_⟩
     simp[hg,show k+(len - k)≤cs.length by omega,hd]
 · by_cases c:len=k
   · subst c
     by_cases c0:len=0
     · subst c0
       refine⟨id,0,H,by simp,.inl rfl,rfl,fun _ _=>rfl,?_⟩
       simp[hg,List.eq_nil_of_length_eq_zero hcs]
     · refine⟨r,0,H.pushAt r (.row true 2 1 []),by simp[c0],.inr rfl,by rw[Heap.pushAt_lt hr];rfl,fun j hj=>by rw[Heap.get_pushAt (by omega),if_neg hj],?_⟩
       simp[Heap.get_pushAt (show r≤H.n by omega),List.drop_eq_nil_of_le (show cs.length≤len by omega)]
   · refine⟨id,k,H,by simp[show ¬(len:Int)=k by omega],.inl rfl,rfl,fun _ _=>rfl,?_⟩
     simp[hg,show k+(len - k)≤cs.length by omega,hd]
theorem cat_at {H:Heap}{id tl m q r:Nat}{cs cs':List Value}{x:Value}{tx:TypeId}(hu:Tryd.prog.underlying tx=some .string∨∃ e,Tryd.prog.underlying tx=some (.slice e))(hg:H.get id = .row true tl 1 cs)(htl:tl≤1)(hm:cs.length=m)
  (hr:r<H.n) (hne:r≠id) (hl:lenA x=some q) (hc:cellsOf H 1 q x=some cs') (hq:cs'.length=q) (hmq:m+q≤1000000000) :
  ∃ id' tl' H',exAppendAt Tryd.prog [23,tx] (.slice (some ⟨id,0,none⟩) m m) x r H=some (.slice (some ⟨id',0,none⟩) (m+q) (m+q),H')∧(id'=id∨id'=r)∧tl'≤1∧H'.get id' = .row true tl' 1 (cs++cs')∧H'.n=H.n∧∀ j,j≠r→j≠id→H'.get j=H.get j:=by
 have hid:=Heap.lt_of_get hg (by simp)
 have h1:elemT Tryd.prog 23=some 5:=by kernel_rfl
 have h2:sizeT Tryd.prog 5=some 1:=by kernel_rfl
 have h3:bytesT Tryd.prog 5=some 1:=by kernel_rfl
 have h4:zeroT Tryd.prog 5=some (.int .u8 0):=by kernel_rfl
 have hz:(Value.int .u8 0).cells.toList.length=1:=rfl
 have f5:cs.take m=cs:=List.take_of_length_le (by omega)
 have f1:m+q+200≤140737488355328:=by omega
 have f2:m+q≤140737488355328:=by omega
 have f3:m+q≤140737488355128:=by omega
 have key:exAppendAt Tryd.prog [23,tx] (.slice (some ⟨id,0,none⟩) m m) x r H=exAppendRow Tryd.prog 5 (some ⟨id,0,none⟩) m m x r (fun H o=>H.pushAt r o) H:=by
  rcases hu with hu | ⟨e,hu⟩<;>simp only[exAppendAt,h1,hu]
 rw[key]
 by_cases h0:q=0
 · subst h0
   refine⟨id,tl,H,?_,.inl rfl,htl,by rw[List.eq_nil_of_length_eq_zero hq,List.append_nil];exact hg,rfl,fun _ _ _=>rfl⟩
   simp only[exAppendRow,h2,h3,h4,hl,hc]
   simp[hz,show m+200≤140737488355328 by omega,show m≤140737488355328 by omega,show m≤140737488355128 by omega]
 · rcases (show tl=0∨tl=1 by omega)with rfl | rfl
   · refine⟨r,1,H.pushAt r (.row true 1 1 (cs++cs')),?_,.inr rfl,Nat.le_refl _,by rw[Heap.get_pushAt (by omega),if_pos rfl],by rw[Heap.pushAt_lt hr];rfl,fun j h1 h2=>by rw[Heap.get_pushAt (by omega),if_neg h1]⟩
     simp only[exAppendRow,h2,h3,h4,hl,hc,hg]
     simp[hz,h0,f1,f2,f3,f5,hm]
     omega
   · refine⟨r,1,(H.set id .dead).pushAt r (.row true 1 1 (cs++cs')),?_,.inr rfl,Nat.le_refl _,by rw[Heap.get_pushAt (by simp;omega),if_pos rfl],by rw[Heap.pushAt_lt (by simpa using hr)];rfl,fun j h1 h2=>by rw[Heap.get_pushAt (by simp;omega),if_neg h1,Heap.get_set _ _ _ hid,if_neg h2]⟩
     simp only[exAppendRow,h2,h3,h4,hl,hc,hg]
     simp[hz,h0,f1,f2,f3,f5,hm]
     omega
end Go.Vm.Make
namespace Go.Vm.Make
open Go Go.Proofs Go.Vm.Parse
attribute [local simp] repCells_succ writeAt rd_Fr toList_beq gpe gpn spe gse gsn
theorem no_mix:planOf Tryd.prog (drawN Tryd.f7 0)=none:=by decide +kernel
theorem la_mix:lateAt (drawN Tryd.f7 0)=none:=by decide +kernel
theorem pre_mix:preOf (drawN Tryd.f7 0)=[0,0,0,6,15,0,63,0,0,384,1023,2047]:=by decide +kernel
theorem ok_mix:freeOK (drawN Tryd.f7 0) [0,0,0,6,15,0,63,0,0,384,1023,2047]=true:=by decide +kernel
theorem ne_mix:needAll (drawN Tryd.f7 0)=6:=by decide +kernel
def RawS (H:Heap)(v:Value)(raw:List UInt8):Prop:=(v = .slice none 0 0∧raw=[])∨∃ rid cap,v = .slice (some ⟨rid,0,none⟩) raw.length cap∧BS H rid 0 cap raw
section
variable {E:Hooks} (hE:Plain E)
include hE
theorem c_mixed (args:List Value)(H:Heap):(run Tryd.prog E).call 7 args H=callB Tryd.prog E Tryd.f7 args H:=call_B Tryd.func7 rfl (by decide +kernel) (hE.no _ rfl rfl) args H
theorem mixed_ok {H:Heap}{nv rv:Value}{N:List Int}{raw:List UInt8}(hN:SL H nv N)(hl:N.length≤100000)(hr:RawS H rv raw){at_:Int} :
  Gives ((run Tryd.prog E).call 7 [nv,rv,.int .i64 at_] H) fun o H'=>∃ (b:Option Addr) (out:List UInt8),o = .val (.slice b out.length out.length)∧Same (fun _=>False) H H'∧OutS H' (fun i=>H.n≤i) (.slice b out.length out.length) out∧out.length≤200000000:=by
 obtain⟨b0,c0,rfl⟩:∃ b c,nv = .slice b N.length c:=by obtain⟨b,c,rfl,_⟩:=hN;exact⟨b,c,rfl⟩
 obtain⟨b1,out,K,e1,k1,g1,l1,l2⟩:=text_ok hE hN hl
 rcases g1 with⟨_,rfl⟩ | ⟨id,tl,hb,htl,hid,hg⟩
 · simp at l1
 simp only[Value.slice.injEq]at hb
 obtain⟨rfl,-⟩:=hb
 have hidn:=Heap.lt_of_get hg (by simp)
 rw[c_mixed hE,callB,bodyOf]
 rcases hr with⟨rfl,rfl⟩ | ⟨rid,cap,rfl,hbs⟩
 · simp[Tryd.f7,e1]
   exact⟨_,out,⟨rfl,rfl⟩,k1,.inr ⟨id,tl,rfl,htl,hid,hg⟩,by omega⟩
 by_cases hz:raw.length=0
 · have hz2:raw=[]:=List.eq_nil_of_length_eq_zero hz
   subst hz2
   simp[Tryd.f7,e1]
   exact⟨_,out,⟨rfl,rfl⟩,k1,.inr ⟨id,tl,rfl,htl,hid,hg⟩,by omega⟩
 have hzz:¬raw=[]:=fun h=>hz (by rw[h];rfl)
 by_cases h3:300<raw.length
 · simp[Tryd.f7,e1,hz,hzz,show (300:Int)<raw.length by omega]
   exact⟨_,out,⟨rfl,rfl⟩,k1,.inr ⟨id,tl,rfl,htl,hid,hg⟩,by omega⟩
 have wL:=wrap64 ((out.length:Int)+1) (by omega) (by omega)
 have hb : -((out.length:Int)+1)<at_.tmod ((out.length:Int)+1)∧at_.tmod ((out.length:Int)+1)<(out.length:Int)+1:=by
  have h1:=Int.tmod_lt_of_pos at_ (show (0:Int)<(out.length:Int)+1 by omega)
  have h2:=Int.neg_tmod at_ ((out.length:Int)+1)
  have h3:=Int.tmod_lt_of_pos (-at_) (show (0:Int)<(out.length:Int)+1 by omega)
  omega
 have hrm:=fun ty a b=>bin_rem (P:=Tryd.prog) ty a b .i64 at_ ((out.length:Int)+1) (by omega)
 generalize at_.tmod ((out.length:Int)+1)=y at hb hrm
 by_cases hy:y<0
 · have w1:=wrap64 (y+(out.length:Int)) (by omega) (by omega)
   have w2:=wrap64 (y+(out.length:Int)+1) (by omega) (by omega)
   obtain⟨k,hky,hk⟩:∃ k:Nat,y+(out.length:Int)+1=k∧k≤out.length:=⟨(y+(out.length:Int)+1).toNat,by omega,by omega⟩
   rw[hky]at w2
   simp[Tryd.f7,e1,hz,hzz,show ¬(300:Int)<raw.length by omega,wL,hrm,hy,w1,hky,w2]
   refine region_free (by exact no_mix) (by exact la_mix) (by exact pre_mix) (by exact ok_mix) (by exact ne_mix) ?_
   obtain⟨K6,hK6⟩:∃ K6,K6=K.room 6:=⟨_,rfl⟩
   have n6:K6.n=K.n+6:=by rw[hK6,room_n]
   have gK6:∀ j,K6.get j=K.get j:=fun j=>by rw[hK6,room_get]
   rw[← hK6]
   obtain⟨S0,hS0⟩:∃ S0,S0=K6.set K.n (.row true 0 1 []):=⟨_,rfl⟩
   have n0:S0.n=K.n+6:=by rw[hS0];exact n6
   have s0:S0.get K.n = .row true 0 1 []:=by rw[hS0];exact Heap.get_set_self _ _ (by omega)
   have s0':∀ j,j≠K.n→S0.get j=K.get j:=fun j hj=>by rw[hS0,Heap.get_set _ _ _ (by omega),if_neg hj,gK6]
   have f0:exBuildSliceAt Tryd.prog 23 0 [] K.n K6=some (.slice (some ⟨K.n,0,none⟩) 0 0,S0):=by
    rw[hS0]
    have:K6.pushAt K.n (.row true 0 1 [])=K6.set K.n (.row true 0 1 []):=Heap.pushAt_lt (by omega) _
    rw[← this];rfl
   have gid0:=(s0' id (by omega)).trans hg
   have f3:=cut_pre (r:=K.n+1) (len:=out.length) gid0 hk
   have hu1:Tryd.prog.underlying 23=some (.slice 5):=by kernel_rfl
   have hcf:cellsOf S0 1 k (.slice (some ⟨id,0,none⟩) k out.length)=some ((out.take k).map byteC):=by
    simp[gid0,hk,List.map_take]
   obtain⟨i4,t4,S4,f4,h4,ht4,s4,n4,s4'⟩:=cat_at (r:=K.n+2) (.inr ⟨_,hu1⟩) s0 (by omega) (m:=0) rfl (by omega) (by omega) (x := .slice (some ⟨id,0,none⟩) k out.length) (q:=k) rfl hcf (by simp;omega) (by omega)
   simp only[Nat.zero_add,List.nil_append]at f4 s4
   have kn:=k1.n
   obtain⟨own,tr,es,rcs,hrg,hr1,hr2,hr3⟩:=hbs
   have hrn:=Heap.lt_of_get hrg (by simp)
   have gr4:S4.get rid = .row own tr es rcs:=by rw[s4' _ (by omega) (by omega),s0' _ (by omega)];exact k1.at hrg (by simp) fun h=>h
   have hcw:cellsOf S4 1 raw.length (.slice (some ⟨rid,0,none⟩) raw.length cap)=some (raw.map byteC):=by
    simp only[Nat.zero_add]at hr1
    simp only[List.drop_zero]at hr3
    simp[gr4,hr1,hr3]
   obtain⟨i9,t9,S9,f9,h9,ht9,s9,n9,s9'⟩:=cat_at (r:=K.n+3) (.inr ⟨_,hu1⟩) s4 ht4 (m:=k) (by simp;omega) (by omega) (by omega) (x := .slice (some ⟨rid,0,none⟩) raw.length cap) (q:=raw.length) rfl hcw (by simp) (by omega)
   have gid9:S9.get id = .row true tl 1 (out.map byteC):=by rw[s9' _ (by omega) (by omega),s4' _ (by omega) (by omega)];exact gid0
   obtain⟨i12,o12,S12,f12,h12,n12,s12',c12⟩:=cut_suf (r:=K.n+4) gid9 htl (by omega) (by omega) (len:=out.length) (by simp) hk
   have s12:S12.get i9 = .row true t9 1 _:=(s12' i9 (by omega)).trans s9
   obtain⟨i13,t13,S13,f13,h13,ht13,s13,n13,s13'⟩:=cat_at (r:=K.n+5) (.inr ⟨_,hu1⟩) s12 ht9 (m:=k+raw.length) (by rw[List.length_append,List.length_map,List.length_map,List.length_take];omega) (by omega) (by omega) (x := .slice (some ⟨i12,o12,none⟩) (out.length - k) (out.length - k)) (q:=out.length - k) rfl c12 (by simp) (by omega)
   simp[-apartP,-clashP,f0,f3,f4,f9,f12,f13]
   rw[if_pos ?_]
   · have hlen:(out.take k++raw++out.drop k).length=k+raw.length+(out.length - k):=by
      rw[List.length_append,List.length_append,List.length_take,List.length_drop];omega
     have hrow:S13.get i13 = .row true t13 1 ((out.take k++raw++out.drop k).map byteC):=by
      rw[s13,List.map_append,List.map_append,List.map_drop]
     simp
     refine⟨some ⟨i13,0,none⟩,out.take k++raw++out.drop k,⟨rfl,hlen.symm⟩,⟨by omega,fun j hj _ => ?_⟩,.inr ⟨i13,t13,rfl,ht13,by omega,hrow⟩,by rw[hlen];omega⟩
     have hjK:j<K.n:=by omega
     rw[s13' j (by omega) (by omega),s12' j (by omega),s9' j (by omega) (by omega),s4' j (by omega) (by omega),s0' j (by omega)]
     exact k1.get j hj (fun h=>h)
   · rcases h4 with rfl | rfl<;>rcases h9 with rfl | rfl<;>rcases h12 with rfl | rfl<;>simp (config:={ decide:=true })<;>omega
 · obtain⟨k,rfl,hk⟩:∃ k:Nat,y=k∧k≤out.length:=⟨y.toNat,by omega,by omega⟩
   simp[Tryd.f7,e1,hz,hzz,show ¬(300:Int)<raw.length by omega,wL,hrm,hy]
   refine region_free (by exact no_mix) (by exact la_mix) (by exact pre_mix) (by exact ok_mix) (by exact ne_mix) ?_
   obtain⟨K6,hK6⟩:∃ K6,K6=K.room 6:=⟨_,rfl⟩
   have n6:K6.n=K.n+6:=by rw[hK6,room_n]
   have gK6:∀ j,K6.get j=K.get j:=fun j=>by rw[hK6,room_get]
   rw[← hK6]
   obtain⟨S0,hS0⟩:∃ S0,S0=K6.set K.n (.row true 0 1 []):=⟨_,rfl⟩
   have n0:S0.n=K.n+6:=by rw[hS0];exact n6
   have s0:S0.get K.n = .row true 0 1 []:=by rw[hS0];exact Heap.get_set_self _ _ (by omega)
   have s0':∀ j,j≠K.n→S0.get j=K.get j:=fun j hj=>by rw[hS0,Heap.get_set _ _ _ (by omega),if_neg hj,gK6]
   have f0:exBuildSliceAt Tryd.prog 23 0 [] K.n K6=some (.slice (some ⟨K.n,0,none⟩) 0 0,S0):=by
    rw[hS0]
    have:K6.pushAt K.n (.row true 0 1 [])=K6.set K.n (.row true 0 1 []):=Heap.pushAt_lt (by omega) _
    rw[← this];rfl
   have gid0:=(s0' id (by omega)).trans hg
   have f3:=cut_pre (r:=K.n+1) (len:=out.length) gid0 hk
   have hu1:Tryd.prog.underlying 23=some (.slice 5):=by kernel_rfl
   have hcf:cellsOf S0 1 k (.slice (some ⟨id,0,none⟩) k out.length)=some ((out.take k).map byteC):=by
    simp[gid0,hk,List.map_take]
   obtain⟨i4,t4,S4,f4,h4,ht4,s4,n4,s4'⟩:=cat_at (r:=K.n+2) (.inr ⟨_,hu1⟩) s0 (by omega) (m:=0) rfl (by omega) (by omega) (x := .slice (some ⟨id,0,none⟩) k out.length) (q:=k) rfl hcf (by simp;omega) (by omega)
   simp only[Nat.zero_add,List.nil_append]at f4 s4
   have kn:=k1.n
   obtain⟨own,tr,es,rcs,hrg,hr1,hr2,hr3⟩:=hbs
   have hrn:=Heap.lt_of_get hrg (by simp)
   have gr4:S4.get rid = .row own tr es rcs:=by rw[s4' _ (by omega) (by omega),s0' _ (by omega)];exact k1.at hrg (by simp) fun h=>h
   have hcw:cellsOf S4 1 raw.length (.slice (some ⟨rid,0,none⟩) raw.length cap)=some (raw.map byteC):=by
    simp only[Nat.zero_add]at hr1
    simp only[List.drop_zero]at hr3
    simp[gr4,hr1,hr3]
   obtain⟨i9,t9,S9,f9,h9,ht9,s9,n9,s9'⟩:=cat_at (r:=K.n+3) (.inr ⟨_,hu1⟩) s4 ht4 (m:=k) (by simp;omega) (by omega) (by omega) (x := .slice (some ⟨rid,0,none⟩) raw.length cap) (q:=raw.length) rfl hcw (by simp) (by omega)
   have gid9:S9.get id = .row true tl 1 (out.map byteC):=by rw[s9' _ (by omega) (by omega),s4' _ (by omega) (by omega)];exact gid0
   obtain⟨i12,o12,S12,f12,h12,n12,s12',c12⟩:=cut_suf (r:=K.n+4) gid9 htl (by omega) (by omega) (len:=out.length) (by simp) hk
   have s12:S12.get i9 = .row true t9 1 _:=(s12' i9 (by omega)).trans s9
   obtain⟨i13,t13,S13,f13,h13,ht13,s13,n13,s13'⟩:=cat_at (r:=K.n+5) (.inr ⟨_,hu1⟩) s12 ht9 (m:=k+raw.length) (by rw[List.length_append,List.length_map,List.length_map,List.length_take];omega) (by omega) (by omega) (x := .slice (some ⟨i12,o12,none⟩) (out.length - k) (out.length - k)) (q:=out.length - k) rfl c12 (by simp) (by omega)
   simp[-apartP,-clashP,f0,f3,f4,f9,f12,f13]
   rw[if_pos ?_]
   · have hlen:(out.take k++raw++out.drop k).length=k+raw.length+(out.length - k):=by
      rw[List.length_append,List.length_append,List.length_take,List.length_drop];omega
     have hrow:S13.get i13 = .row true t13 1 ((out.take k++raw++out.drop k).map byteC):=by
      rw[s13,List.map_append,List.map_append,List.map_drop]
     simp
     refine⟨some ⟨i13,0,none⟩,out.take k++raw++out.drop k,⟨rfl,hlen.symm⟩,⟨by omega,fun j hj _ => ?_⟩,.inr ⟨i13,t13,rfl,ht13,by omega,hrow⟩,by rw[hlen];omega⟩
     have hjK:j<K.n:=by omega
     rw[s13' j (by omega) (by omega),s12' j (by omega),s9' j (by omega) (by omega),s4' j (by omega) (by omega),s0' j (by omega)]
     exact k1.get j hj (fun h=>h)
   · rcases h4 with rfl | rfl<;>rcases h9 with rfl | rfl<;>rcases h12 with rfl | rfl<;>simp (config:={ decide:=true })<;>omega
end
end Go.Vm.Make
namespace Go.Vm.Parse
open Go Go.Proofs
attribute [local simp] repCells_succ writeAt rd_Fr toList_beq gpe gpn spe gse gsn ne_r0 ne_l0 le_s0 ne_r1 ne_l1 lt_s1 le_s1 ne_r2 ne_l2 lt_s2 le_s2 ne_r3 ne_l3 lt_s3 le_s3 ne_r4 ne_l4 lt_s4 le_s4 ne_r5 ne_l5 lt_s5 le_s5 ne_r6 ne_l6 lt_s6 le_s6 ne_r7 ne_l7 lt_s7 le_s7
section
variable {E:Hooks} (hE:Plain E) {B:BrP} {r lid:Nat} {L:List Tk}
include hE
end
section
variable {E:Hooks} (hE:Plain E) {B:BrP} {r lid:Nat} {L:List Tk}
include hE
end
section
variable {E:Hooks} (hE:Plain E) {r lid:Nat} {L:List Tk}
include hE
end
section
variable {E:Hooks} (hE:Plain E) {r lid:Nat} {L:List Tk}
include hE
end
section
variable {E:Hooks} (hE:Plain E) {B:BrP} {r lid:Nat} {L:List Tk}
include hE
end
structure PT (H:Heap)(r sid:Nat)(t:List Value):Prop where
 len:t.length=72
 t2:rd t 2 = .pointer (some ⟨H.n,0,none⟩)
 t3:rd t 3 = .pointer (some ⟨H.n+1,0,none⟩)
 t6:rd t 6 = .pointer (some ⟨r,0,none⟩)
 t7:rd t 7 = .pointer (some ⟨sid,0,none⟩)
theorem PT.of {H:Heap}{r sid:Nat}{t t':List Value}(p:PT H r sid t)(hl:t'.length=t.length)(h:AllRd t' t [2,3,6,7]):PT H r sid t':=by
 simp at h
 exact⟨hl.trans p.len,h.1.trans p.t2,h.2.1.trans p.t3,h.2.2.1.trans p.t6,h.2.2.2.trans p.t7⟩
section
variable {E:Hooks} (hE:Plain E) {B:BrP}
include hE
def AllOK (E:Hooks)(H:Heap)(v:Value)(src:List UInt8):Prop:=∀ q,lexFrom src (src.length+1) 0 []=some q→∀ X,Same (fun _=>False) H X→Gives ((run Tryd.prog E).call 6 [v] X) (RetL X q)
theorem AllOK.bs {H:Heap}{sid off cap:Nat}{src:List UInt8}(hb:BS H sid off cap src)(hsm:src.length≤4096):AllOK E H (.slice (some ⟨sid,off,none⟩) src.length cap) src :=
 fun q hq X k=>all_walk hE (hb.same k (fun h=>h)) hsm hq
theorem AllOK.nil (H:Heap):AllOK E H (.slice none 0 0) []:=by
 intro q hq X kX
 simp[lexFrom]at hq
 subst hq
 rw[c_All hE,callB,bodyOf]
 simp[Tryd.f6]
 refine loop_wp (fun m t K=>rd t 5 = .int .i64 0∧rd t 4 = .slice (some ⟨X.n+1,0,none⟩) 0 0∧K=(X.push (.row true 0 1 [.int .i64 0,.int .i64 0])).push (.row true 0 4 [])) 0 ?_ ?_
 · exact⟨by simp,by simp,rfl⟩
 rintro m t K hk ⟨g5,g4,rfl⟩
 have ht:t.length=193:=hk.1.trans (by simp[len_Bs])
 have hh:=hk.all [0,3] (by decide +kernel)
 simp at hh
 obtain⟨t0,t3⟩:=hh
 obtain⟨H2,e1,e2,e3,e4⟩:=app_one tf_tok (H:=((X.push (.row true 0 1 [.int .i64 0,.int .i64 0])).push (.row true 0 4 [])).push (.row true 0 4 [.int .i64 5,.int .i64 0,.int .i64 0,.string ByteArray.empty])) (id:=X.n+1) (tl:=0) (n:=0) (xid:=X.n+1+1) (cs:=[]) (c:=[.int .i64 5,.int .i64 0,.int .i64 0,.string ByteArray.empty]) (xt:=0) (xe:=4) (xo:=true) (xc:=1)
  (by rw[Heap.get_push,if_neg (by simp)];exact Heap.get_push_self _ _) rfl (by omega) rfl (by exact Heap.get_push_self _ _) (by omega)
 simp only[Heap.n_push]at e1 e2 e3
 have g1:H2.get X.n = .row true 0 1 [.int .i64 0,.int .i64 0]:=e4.at (by rw[Heap.get_push,if_neg (by simp),Heap.get_push,if_neg (by simp),Heap.get_push_self]) (by simp) (by omega)
 have kp:Same (fun _=>False) X (((X.push (.row true 0 1 [.int .i64 0,.int .i64 0])).push (.row true 0 4 [])).push (.row true 0 4 [.int .i64 5,.int .i64 0,.int .i64 0,.string ByteArray.empty])):=((Same.push _ _ _).then_push _).then_push _
 simp[ht,g5,g4,t0,t3,e1,g1,show X.n<H2.n by omega]
 refine⟨(kp.then e4 (fun i hi => .inr (by omega))).then_set (by omega) (.inr (Nat.le_refl _)) _,X.n+1+1+1,by omega,rfl,1,by omega,?_⟩
 rw[Heap.get_set _ _ _ (by omega),if_neg (by omega)]
 exact e2
end
end Go.Vm.Parse
namespace Go.Vm.Make
open Go Go.Proofs Go.Vm.Parse
attribute [local simp] repCells_succ writeAt rd_Fr toList_beq gpe gpn spe gse gsn
theorem flat_ints {k:Nat}{x:Value}{o:AObj}(fa:FlatArg (isInt .i64) 1 k x o){H:Heap}(hH:H.get k=o):∃ N:List Int,SL H x N:=by
 obtain⟨base,len,cap,cs,rfl,h1,h2,h3,h4,h5⟩:=fa
 have hb:∀ cs:List Value,(∀ c∈cs,isInt .i64 c)→∃ N:List Int,cs=N.map iv:=by
  intro cs
  induction cs with
  | nil=>intro _;exact⟨[],rfl⟩
  | cons c cs ih =>
   intro h
   obtain⟨N,hN⟩:=ih fun c hc=>h c (by simp[hc])
   obtain⟨n,hn,_⟩:=h c (by simp)
   exact⟨n :: N,by simp[hn,← hN]⟩
 rcases h5 with⟨rfl,rfl,rfl,rfl⟩ | ⟨rfl,rfl⟩
 · exact⟨[],none,0,rfl,.inl ⟨rfl,rfl⟩⟩
 · obtain⟨N,rfl⟩:=hb cs h4
   simp at h3
   refine⟨N.take len,some ⟨k,0,none⟩,cap,?_,.inr ⟨k,0,false,0,0,_,rfl,hH,?_,?_⟩⟩
   · simp only[List.length_take];rw[Nat.min_eq_left (by omega)]
   · simp;omega
   · simp only[List.length_take,Nat.min_eq_left (show len≤N.length by omega),List.drop_zero,List.map_take]
def TokS (H:Heap)(v:Value)(L:List Tk):Prop:=(v = .slice none 0 0∧L=[])∨∃ id tl,tl≤1∧v = .slice (some ⟨id,0,none⟩) L.length L.length∧H.get id = .row true tl 4 (flatT L)
theorem TokS.slice {H:Heap}{v:Value}{L:List Tk}(h:TokS H v L):∃ b,v = .slice b L.length L.length:=by
 rcases h with⟨rfl,rfl⟩ | ⟨id,tl,_,rfl,_⟩
 · exact⟨none,rfl⟩
 · exact⟨_,rfl⟩
theorem TokS.some {H:Heap}{v:Value}{L:List Tk}(h:TokS H v L)(hl:0<L.length):∃ id tl,tl≤1∧v = .slice (some ⟨id,0,none⟩) L.length L.length∧H.get id = .row true tl 4 (flatT L):=by
 rcases h with⟨rfl,rfl⟩ | h
 · cases hl
 · exact h
section
variable {E:Hooks} (hE:Plain E)
include hE
theorem all_long {H:Heap}{b:Option Addr}{n cap:Nat}(hn:4096<n):∃ H',(run Tryd.prog E).call 6 [.slice b n cap] H=some (.val (.tuple #[.slice none 0 0,.agg ⟨[.int .i64 16,.int .i64 4096]⟩]),H')∧Same (fun _=>False) H H':=by
 suffices key:Gives ((run Tryd.prog E).call 6 [.slice b n cap] H) fun o H'=>o = .val (.tuple #[.slice none 0 0,.agg ⟨[.int .i64 16,.int .i64 4096]⟩])∧Same (fun _=>False) H H' by
  obtain⟨o,H',e,rfl,k⟩:=key
  exact⟨H',e,k⟩
 rw[c_All hE,callB,bodyOf]
 simp[Tryd.f6,show (4096:Int)<n by omega]
 exact Same.push _ _ _
theorem all_made {H:Heap}{S:Nat→Prop}{ov:Value}{out:List UInt8}(g:OutS H S ov out):∃ (v:Value)(L:List Tk)(c a:Int)(K:Heap),(run Tryd.prog E).call 6 [ov] H=some (.val (.tuple #[v,.agg ⟨[.int .i64 c,.int .i64 a]⟩]),K)∧Same (fun _=>False) H K∧TokS K v L∧L.length≤10000∧(c=0→1≤L.length):=by
 by_cases hb:4096<out.length
 · obtain⟨b,rfl⟩:=g.slice
   obtain⟨K,e,k⟩:=all_long hE (H:=H) (b:=b) (cap:=out.length) hb
   exact⟨_,[],_,_,K,e,k,.inl ⟨rfl,rfl⟩,by simp,fun h=>by cases h⟩
 · have hall:AllOK E H ov out:=by
    rcases g with⟨rfl,rfl⟩ | ⟨id,tl,rfl,htl,hS,hg⟩
    · exact AllOK.nil hE H
    · exact AllOK.bs hE (sid:=id) (off:=0) (cap:=out.length) ⟨true,tl,1,_,hg,by simp,Nat.le_refl _,by rw[List.drop_zero];exact List.take_of_length_le (by simp)⟩ (by omega)
   obtain⟨q,hq⟩:=lex_ans out (out.length+1) 0 [] (Nat.zero_le _) (by omega)
   obtain⟨o,K,e,k,hr⟩:=hall q hq H (Same.refl _ _)
   cases q with
   | inr f =>
    obtain⟨c,a⟩:=f
    simp only at hr
    subst hr
    exact⟨_,[],c,a,K,e,k,.inl ⟨rfl,rfl⟩,by simp,fun h=>absurd h (lexFrom_bad hq)⟩
   | inl L =>
    simp only at hr
    obtain⟨id,hid,rfl,tl,htl,hrow⟩:=hr
    have hl:=lexFrom_len hq
    simp at hl
    exact⟨_,L,0,0,K,e,k,.inr ⟨id,tl,htl,rfl,hrow⟩,by omega,fun _=>lexFrom_pos hq⟩
end
end Go.Vm.Make
namespace Go.Vm.Ex
open Go Go.Proofs Go.Vm.Parse Go.Vm.ExprLaw Go.Vm.Make
attribute [local simp] repCells_succ writeAt rd_Fr toList_beq gpe gpn spe gse gsn
theorem c_made23 (args:List Value)(H:Heap):(run Tryd.prog E1).call 3 args H=callB Tryd.prog E1 Tryd.f3 args H:=call_B Tryd.func3 rfl (by decide +kernel) rfl args H
theorem exprmade_walk (x:Value)(o:AObj)(fa:FlatArg (isInt .i64) 1 0 x o)(y:Value)(o2:AObj)(fb:FlatArg (isInt .u8) 1 1 y o2)(at_:Int)(w1:Lit.wf (.int .i64 at_)=true)(fr:Int)(w2:Lit.wf (.int .i64 fr)=true)(lv:Int)(w3:Lit.wf (.int .i64 lv)=true) :
  Gives ((run Tryd.prog E1).call 3 [x,y,.int .i64 at_,.int .i64 fr,.int .i64 lv] ((Heap.empty.push o).push o2)) fun o _=>o = .val (.bool true):=by
 have aw:=awake_true
 obtain⟨H,hH⟩:∃ H,H=(Heap.empty.push o).push o2:=⟨_,rfl⟩
 rw[← hH]
 obtain⟨N,hN⟩:=flat_ints fa (H:=H) (by rw[hH,Heap.get_push,if_neg (by simp)];exact Heap.get_push_self _ _)
 obtain⟨raw,hR⟩:∃ raw,RawS H y raw:=by
  rcases flat_bytes fb (show H.get 1=o2 by rw[hH];exact Heap.get_push_self _ _)with rfl | ⟨src,cap,rfl,hb⟩
  · exact⟨[],.inl ⟨rfl,rfl⟩⟩
  · exact⟨src,.inr ⟨1,cap,rfl,hb⟩⟩
 clear hH
 obtain⟨b0,c0,rfl⟩:∃ b c,x = .slice b N.length c:=by obtain⟨b,c,rfl,_⟩:=hN;exact⟨b,c,rfl⟩
 obtain⟨b1,n1,c1,rfl⟩:∃ b n c,y = .slice b n c:=by rcases hR with⟨rfl,_⟩ | ⟨_,_,rfl,_⟩<;>exact⟨_,_,_,rfl⟩
 rw[c_made23,callB,bodyOf]
 by_cases h1:200<N.length
 · simp[Tryd.f3,show (200:Int)<N.length by omega,aw]
 obtain⟨oM,H1,e1,b2,out,rfl,k1,g1,l1⟩:=mixed_ok plain_E1 hN (by omega) hR (at_:=at_)
 obtain⟨v,L,c,a,H2,e2,k2,g2,l2,hc⟩:=all_made plain_E1 g1
 obtain⟨b3,rfl⟩:=g2.slice
 have gf:∀ A:Heap,(A.push (.row true 0 1 [.int .i64 c,.int .i64 a])).get A.n = .row true 0 1 [.int .i64 c,.int .i64 a]:=fun A=>Heap.get_push_self _ _
 by_cases h2:c=0
 · have hL1:=hc h2
   obtain⟨id,tl,htl,hb,hrow⟩:=g2.some (by omega)
   simp only[Value.slice.injEq]at hb
   obtain⟨rfl,-⟩:=hb
   obtain⟨k,k0,k1',ek⟩:=within_any plain_E1 w2 0 ((L.length:Int) - 1) (by omega) (by omega) (by omega)
   obtain⟨l,l0,l1',el⟩:=within_any plain_E1 w3 1 24 (by omega) (by omega) (by omega)
   have wL:=wrap64 ((L.length:Int) - 1) (by omega) (by omega)
   have wk:=wrap64 ((k:Int)+20) (by omega) (by omega)
   subst h2
   have kp:Same (fun _=>False) H2 (H2.push (.row true 0 1 [.int .i64 0,.int .i64 a])):=Same.push _ _ _
   have hrow2:=kp.at hrow (by simp) fun h=>h
   simp[Tryd.f3,show ¬(200:Int)<N.length by omega,e1,e2,wL,ek]
   generalize H2.push (.row true 0 1 [.int .i64 0,.int .i64 a])=H3 at *
   refine loop_mid2 (fun t K=>True) (fun m t K=>∃ i:Nat,k≤i∧i≤L.length∧m=L.length - i∧rd t 14 = .int .i64 i∧K.get id = .row true tl 4 (flatT L)) (L.length - k) ?_ ?_ ?_
   · exact⟨k,Nat.le_refl _,by omega,rfl,by simp,hrow2⟩
   · rintro m t K hk ⟨i,hki,hi,rfl,g14,hr⟩
     have ht:t.length=56:=hk.1.trans (by simp[len_Bs])
     have hh:=hk.all [4,11,13] (by decide +kernel)
     simp at hh
     obtain⟨q4,q11,q13⟩:=hh
     have wi:=wrap64 ((i:Int)+1) (by omega) (by omega)
     rcases Nat.lt_or_ge i L.length with hlt | hge
     · by_cases h20:(i:Int)<(k:Int)+20
       · obtain⟨H',e3,k3⟩:=alike_same hr (by omega) hi (show (0:Int)≤l by omega) (by omega)
         simp[ht,q4,q11,q13,g14,hlt,wk,h20,el,e3,wi]
         exact⟨L.length - (i+1),by omega,i+1,by omega,by omega,rfl,by simp[ht],k3.at hr (by simp) fun h=>h⟩
       · simp[ht,q4,q11,q13,g14,hlt,wk,h20]
     · simp[ht,q4,q11,q13,g14,show ¬i<L.length by omega]
   · rintro t K hk -
     have ht:t.length=56:=hk.1.trans (by simp[len_Bs])
     simp[ht,aw]
 · simp[Tryd.f3,show ¬(200:Int)<N.length by omega,e1,e2,h2,aw]
end Go.Vm.Ex
