/- What is defined and proved: the reader of bytes, by what is left of the text. What is proved: the reader's statements for any fuel; its 'size'. What is defined and proved: declarations; the reader's 'decls'. What is defined and proved: procedures in plain words, and in the heap; the reader's 'proc'. What is proved: the reader's 'proc'. What is defined and proved: sources in plain words, and in the heap; 'Parse'. What is defined and proved: what names mean, in plain words and in the heap. What is proved: whether a name is known; what a kind declares. What is proved: what a declaration does to a table. What is proved: the four declarations' 'into'. What is proved: 'into' of variables, shared ones and all. What is defined and proved: 'Build' in plain words; what a table always is. What is proved: 'Build', if its 'proc' does what it must. What is proved: lists of names, one behind the other ('slices.Concat'). What is proved: a table's 'proc'. What is defined and proved: the reference's table of names, in plain words and in the heap; its small functions. What is defined and proved: the reference's 'Build', in plain words; its walk. What is proved: the reference's 'Build'. What is proved: what a table tells of names: its methods. What is proved: copies of a table's lists. What is proved: what the reference's table tells of names: its methods. -/
import Derived.Test.YtmojliogiiembaaGreatDoorX4
set_option maxRecDepth 100000
set_option maxHeartbeats 4000000
set_option linter.unusedSimpArgs false
set_option linter.unusedVariables false
set_option linter.unusedSectionVars false
namespace Go.Vm.Parse
open Go Go.Proofs
theorem lexStep_to {src:List UInt8}{a:Nat}(h:a<src.length){c:UInt8}{to:Nat}{t:Option Tk}(e:lexStep src a c = .more to t):a<to∧to≤src.length:=by
 have sp:∀ p,a+1≤spanTo p src (a+1)∧spanTo p src (a+1)≤src.length:=fun p=>spanTo_le (by omega)
 unfold lexStep at e
 split at e
 · cases e;omega
 split at e
 · split at e
   · cases e
   · rename_i h2;cases e;have:=sp (fun b => !decide (b.toNat=125));omega
 split at e
 · cases e;omega
 split at e
 · have:=sp nameB
   split at e
   · cases e;omega
   split at e
   · cases e
   · cases e;omega
 split at e
 · have:=sp digitB
   split at e
   · cases e
   · cases e;omega
 split at e
 · cases e
 · rename_i h2
   cases e
   have h3:=signP_le (src.drop a)
   rw[List.length_drop]at h3
   omega
theorem lex_ans (src:List UInt8):∀ n a out,a≤src.length→src.length<a+n→∃ r,lexFrom src n a out=some r
 | 0,a,out,h1,h2=>by omega
 | n + 1, a, out, h1, h2 => by
  rw[lexFrom]
  split
  · rename_i h
    cases e:lexStep src a src[a]with
    | bad c p=>exact⟨_,rfl⟩
    | more to t =>
     have:=lexStep_to h e
     cases t with
     | none=>exact lex_ans src n to out (by omega) (by omega)
     | some t=>exact lex_ans src n to (out++[t]) (by omega) (by omega)
  · exact⟨_,rfl⟩
theorem lexFrom_len {src:List UInt8}:∀ {n a:Nat}{out l:List Tk},lexFrom src n a out=some (.inl l)→l.length≤out.length+n
 | 0,_,_,_,h=>by cases h
 | n + 1, a, out, l, h => by
  rw[lexFrom]at h
  split at h
  · split at h
    · cases h
    · have:=lexFrom_len h;omega
    · have:=lexFrom_len h;simp at this;omega
  · cases h;simp
theorem lexFrom_bad {src:List UInt8}:∀ {n a:Nat}{out:List Tk}{c p:Int},lexFrom src n a out=some (.inr (c,p))→c≠0
 | 0,_,_,_,_,h=>by cases h
 | n + 1, a, out, c, p, h => by
  rw[lexFrom]at h
  split at h
  · split at h
    · rename_i e
      cases h
      unfold lexStep at e
      split at e
      · cases e
      · split at e
        · split at e
          · cases e;omega
          · cases e
        · split at e
          · cases e
          · split at e
            · split at e
              · cases e
              · split at e
                · cases e;omega
                · cases e
            · split at e
              · split at e
                · cases e;omega
                · cases e
              · split at e
                · cases e;omega
                · cases e
    · exact lexFrom_bad h
    · exact lexFrom_bad h
  · cases h
inductive LT where
 | more (k:Nat) (t:Option Tk)
 | bad (c a:Int)
def stepL (c:UInt8)(l:List UInt8)(a:Nat):LT :=
 if c.toNat=32∨c.toNat=9∨c.toNat=10∨c.toNat=13 then .more 1 none
 else if c.toNat=123 then
  if (l.takeWhile fun b => !decide (b.toNat=125)).length=l.length then .bad 11 a else .more ((l.takeWhile fun b => !decide (b.toNat=125)).length+2) none
 else if c.toNat=80∨c.toNat=86 then .more 1 (some ⟨3,a,0,⟨⟨[c]⟩⟩⟩)
 else if letterB c=true then
  if isWord ⟨⟨c :: l.takeWhile nameB⟩⟩=true then .more ((l.takeWhile nameB).length+1) (some ⟨3,a,0,⟨⟨c :: l.takeWhile nameB⟩⟩⟩)
  else if 12<(l.takeWhile nameB).length+1 then .bad 12 a
  else .more ((l.takeWhile nameB).length+1) (some ⟨1,a,0,⟨⟨c :: l.takeWhile nameB⟩⟩⟩)
 else if digitB c=true then
  match numFrom (c :: l.takeWhile digitB) 0 with
  | none => .bad 13 a
  | some n => .more ((l.takeWhile digitB).length+1) (some ⟨2,a,n,ByteArray.empty⟩)
 else if signP (c :: l)=0 then .bad 11 a
 else .more (signP (c :: l)) (some ⟨4,a,0,⟨⟨(c :: l).take (signP (c :: l))⟩⟩⟩)
def LT.at_ (a:Nat):LT→LS
 | .more k t => .more (a+k) t
 | .bad c p => .bad c p
theorem take_while (p:UInt8→Bool)(l:List UInt8):l.take (l.takeWhile p).length=l.takeWhile p:=(List.prefix_iff_eq_take.1 (List.takeWhile_prefix p)).symm
theorem lexStep_L {src:List UInt8}{a:Nat}{c:UInt8}{l:List UInt8}(h:src.drop a=c :: l):lexStep src a c=(stepL c l a).at_ a:=by
 have h1:src.drop (a+1)=l:=by rw[← List.drop_drop,h];rfl
 have hlen:src.length=a+1+l.length:=by
  have:=congrArg List.length h
  simp at this
  omega
 have hs:∀ p,spanTo p src (a+1)=a+((l.takeWhile p).length+1):=fun p=>by unfold spanTo;rw[h1];omega
 have hc:∀ p,cutB src a (a+((l.takeWhile p).length+1))=⟨⟨c :: l.takeWhile p⟩⟩:=fun p=>by
  unfold cutB
  rw[h,show a+((l.takeWhile p).length+1) - a=(l.takeWhile p).length+1 by omega,List.take_succ_cons,take_while]
 have hc1:cutB src a (a+1)=⟨⟨[c]⟩⟩:=by
  unfold cutB
  rw[h,show a+1 - a=1 by omega];rfl
 have hc2:∀ k,cutB src a (a+k)=⟨⟨(c :: l).take k⟩⟩:=fun k=>by
  unfold cutB
  rw[h,show a+k - a=k by omega]
 unfold lexStep stepL
 by_cases c1:c.toNat=32∨c.toNat=9∨c.toNat=10∨c.toNat=13
 · rw[if_pos c1,if_pos c1];rfl
 rw[if_neg c1,if_neg c1]
 by_cases c2:c.toNat=123
 · rw[if_pos c2,if_pos c2,hs]
   by_cases c3:(l.takeWhile fun b => !decide (b.toNat=125)).length=l.length
   · rw[if_pos (by omega),if_pos c3];rfl
   · rw[if_neg (by omega),if_neg c3];rfl
 rw[if_neg c2,if_neg c2]
 by_cases c3:c.toNat=80∨c.toNat=86
 · rw[if_pos c3,if_pos c3,hc1];rfl
 rw[if_neg c3,if_neg c3]
 by_cases c4:letterB c=true
 · rw[if_pos c4,if_pos c4,hs,hc]
   by_cases c5:isWord ⟨⟨c :: l.takeWhile nameB⟩⟩=true
   · rw[if_pos c5,if_pos c5];rfl
   rw[if_neg c5,if_neg c5]
   by_cases c6:12<(l.takeWhile nameB).length+1
   · rw[if_pos (by omega),if_pos c6];rfl
   · rw[if_neg (by omega),if_neg c6];rfl
 rw[if_neg c4,if_neg c4]
 by_cases c5:digitB c=true
 · rw[if_pos c5,if_pos c5,hs,h,show a+((l.takeWhile digitB).length+1) - a=(l.takeWhile digitB).length+1 by omega,List.take_succ_cons,take_while]
   cases numFrom (c :: l.takeWhile digitB) 0<;>rfl
 rw[if_neg c5,if_neg c5,h]
 by_cases c6:signP (c :: l)=0
 · rw[if_pos c6,if_pos c6];rfl
 · rw[if_neg c6,if_neg c6,hc2];rfl
def Lx (l:List UInt8)(a:Nat)(toks:List Tk):Prop:=∀ src out n,src.drop a=l→a≤src.length→src.length<a+n→lexFrom src n a out=some (.inl (out++toks))
theorem Lx.nil (a:Nat):Lx [] a [⟨5,a,0,ByteArray.empty⟩]:=by
 intro src out n h1 h2 h3
 have:=congrArg List.length h1
 simp at this
 obtain⟨m,rfl⟩:∃ m,n=m+1:=⟨n - 1,by omega⟩
 rw[lexFrom,dif_neg (by omega),show src.length=a by omega]
theorem Lx.step {c:UInt8}{l:List UInt8}{a k:Nat}{t:Option Tk}{toks:List Tk}(e:stepL c l a = .more k t)(h:Lx ((c :: l).drop k) (a+k) toks):Lx (c :: l) a (t.toList++toks):=by
 intro src out n h1 h2 h3
 obtain⟨m,rfl⟩:∃ m,n=m+1:=⟨n - 1,by have:=congrArg List.length h1;simp at this;omega⟩
 have hlt:a<src.length:=by have:=congrArg List.length h1;simp at this;omega
 have hc:src[a]=c:=by
  have e2:=List.drop_eq_getElem_cons hlt
  rw[h1]at e2
  injection e2 with e3;exact e3.symm
 have es:=lexStep_L h1
 rw[e]at es
 have hb:=lexStep_to hlt es
 have hd:src.drop (a+k)=(c :: l).drop k:=by rw[← h1,List.drop_drop]
 rw[lexFrom,dif_pos hlt,hc,es]
 cases t with
 | none=>exact h src out m hd hb.2 (by omega)
 | some t =>
  have:=h src (out++[t]) m hd hb.2 (by omega)
  rw[List.append_assoc]at this
  exact this
theorem Lx.all {src:List UInt8}{toks:List Tk}(h:Lx src 0 toks):lexFrom src (src.length+1) 0 []=some (.inl toks):=h src [] _ rfl (Nat.zero_le _) (by omega)
theorem Lx.blank {l:List UInt8}{a:Nat}{toks:List Tk}(h:Lx l (a+1) toks):Lx (32 :: l) a toks:=Lx.step (t:=none) (k:=1) rfl h
theorem takeWhile_app {p:UInt8→Bool}:∀ {w l:List UInt8},(∀ x∈w,p x=true)→l.takeWhile p=[]→(w++l).takeWhile p=w
 | [],l,_,h=>h
 | x :: w, l, hw, h => by
  rw[List.cons_append,List.takeWhile_cons,if_pos (hw x (by simp)),takeWhile_app (fun y hy=>hw y (by simp[hy])) h]
theorem Lx.name {c:UInt8}{w l:List UInt8}{a:Nat}{toks:List Tk}(k:Int)(hc:letterB c=true)(hw:∀ x∈w,nameB x=true)(hl:l.takeWhile nameB=[])(hk:if isWord ⟨⟨c :: w⟩⟩=true then k=3 else (w.length<12∧k=1))
  (h:Lx l (a+(w.length+1)) toks):Lx (c :: (w++l)) a (⟨k,a,0,⟨⟨c :: w⟩⟩⟩ :: toks):=by
 refine Lx.step (t:=some ⟨k,a,0,⟨⟨c :: w⟩⟩⟩) (k:=w.length+1) ?_ (by rw[List.drop_succ_cons,List.drop_left];exact h)
 have hd:97≤c.toNat∧c.toNat≤122:=by unfold letterB at hc;simpa using hc
 unfold stepL
 rw[if_neg (by omega),if_neg (by omega),if_neg (by omega),if_pos hc,takeWhile_app hw hl]
 split at hk
 · rename_i hi;subst hk;rw[if_pos hi]
 · rename_i hi;obtain⟨h1,rfl⟩:=hk;rw[if_neg hi,if_neg (by omega)]
end Go.Vm.Parse
namespace Go.Vm.Parse
open Go Go.Proofs
attribute [local simp] repCells_succ writeAt rd_Fr toList_beq gpe gpn spe gse gsn ne_r0 ne_l0 le_s0 ne_r1 ne_l1 lt_s1 le_s1 ne_r2 ne_l2 lt_s2 le_s2 ne_r3 ne_l3 lt_s3 le_s3 ne_r4 ne_l4 lt_s4 le_s4 ne_r5 ne_l5 lt_s5 le_s5 ne_r6 ne_l6 lt_s6 le_s6 ne_r7 ne_l7 lt_s7 le_s7
section
variable {E:Hooks} (hE:Plain E) {B:BrP} {r lid:Nat} {L:List Tk}
include hE
theorem st_all (hB:BLt B L)(hBr:BranOK E B r lid L):∀ n,StmtOK E B r lid L n∧StmtsOK E B r lid L n∧BlockOK E B r lid L n:=by
 intro n
 induction n using Nat.strongRecOn with
 | _ n ih =>
  have h2:=stmts_walk hE hB (n:=n) fun m hm=>(ih m hm).1
  cases n with
  | zero=>exact⟨fun _ _ _ _ h=>(by rw[stmtP]at h;cases h),h2,fun _ _ _ _ _ h=>(by rw[blockP]at h;cases h)⟩
  | succ n=>exact⟨stmt_walk hE hB hBr (ih n (by omega)).2.2,h2,block_walk hE (ih n (by omega)).2.1⟩
end
def unitS (L:List Tk)(s:PS)(q:Int × Int):PS:=if s.c=0∧(q.1<1∨64<q.1)then { s with c:=24,a:=q.2 }else s
def sizeP (L:List Tk)(s:PS):Int × PS :=
 if isP L s (b1 91)=false then (0,s)
 else ((numP L s.on).1,mustS L (unitS L (numS L s.on) (numP L s.on)) (b1 93))
theorem unitS_le (L:List Tk)(s:PS)(q:Int × Int):s.le (unitS L s q):=by
 unfold unitS
 split
 · exact⟨Nat.le_refl _,fun h=>by simp at h⟩
 · exact PS.le_refl _
theorem sizeP_le (L:List Tk)(s:PS):s.le (sizeP L s).2:=by
 unfold sizeP
 split
 · exact PS.le_refl _
 · exact (((PS.le_on s).le_trans (numS_le _ _)).le_trans (unitS_le _ _ _)).le_trans (mustS_le _ _ _)
section
variable {E:Hooks} (hE:Plain E) {r lid:Nat} {L:List Tk}
include hE
theorem size_run {H:Heap}{s:PS}(h:RD H r lid L s):∃ H',(run Tryz.prog E).call 71 [.pointer (some ⟨r,0,none⟩)] H=some (.val (.int .i64 (sizeP L s).1),H')∧Same (·=r) H H'∧RD H' r lid L (sizeP L s).2:=by
 suffices key:Gives ((run Tryz.prog E).call 71 [.pointer (some ⟨r,0,none⟩)] H) fun o H'=>o = .val (.int .i64 (sizeP L s).1)∧Same (·=r) H H'∧RD H' r lid L (sizeP L s).2 by
  obtain⟨o,H',e,rfl,k⟩:=key
  exact⟨H',e,k⟩
 have hr:=h.lt
 obtain⟨HA,eA,kA,hA⟩:=take_run hE h (b1 91)
 rw[c_size hE,callB,bodyOf]
 simp only[b1]at eA
 unfold sizeP
 by_cases c1:isP L s (b1 91)=false
 · rw[if_pos c1]
   rw[takeS_no c1]at hA
   simp only[b1]at c1
   simp[Tryz.f71,eA,c1]
   exact⟨kA,hA⟩
 rw[if_neg c1]
 have c1':isP L s (b1 91)=true:=by simpa using c1
 rw[takeS_yes c1']at hA
 obtain⟨HB,eB,kB,hB⟩:=num_run hE hA
 have eb:=bad_run hE hB
 have hobj:=hB.obj
 have hrB:=hB.lt
 generalize hq:numP L s.on=q at *
 generalize hs2:numS L s.on=s2 at *
 simp only[b1]at c1'
 have fin:∀ s3 K,Same (·=r) H K→RD K r lid L s3→∃ K',(run Tryz.prog E).call 34 [.pointer (some ⟨r,0,none⟩),.string (b1 93)] K=some (.val (.tuple #[]),K')∧Same (·=r) H K'∧RD K' r lid L (mustS L s3 (b1 93)):=by
  intro s3 K k hK
  obtain⟨K',e,k',d⟩:=must_run hE hK (b1 93)
  exact⟨K',e,k.trans k',d⟩
 by_cases c2:s2.c=0
 · by_cases c3:q.1<1
   · have hu:unitS L s2 q={ s2 with c:=24,a:=q.2 }:=by unfold unitS;rw[if_pos ⟨c2,.inl c3⟩]
     rw[hu]
     obtain⟨KD,eD,kD,hD⟩:=fin _ _ ((kA.trans kB).then_set hrB (.inl rfl) _) (hB.turn { s2 with c:=24,a:=q.2 } hB.place)
     simp only[b1]at eD
     simp[Tryz.f71,eA,c1',eB,eb,c2,c3,hobj,eD]
     exact⟨kD,hD⟩
   · by_cases c4:64<q.1
     · have hu:unitS L s2 q={ s2 with c:=24,a:=q.2 }:=by unfold unitS;rw[if_pos ⟨c2,.inr c4⟩]
       rw[hu]
       obtain⟨KD,eD,kD,hD⟩:=fin _ _ ((kA.trans kB).then_set hrB (.inl rfl) _) (hB.turn { s2 with c:=24,a:=q.2 } hB.place)
       simp only[b1]at eD
       simp[Tryz.f71,eA,c1',eB,eb,c2,c3,c4,hobj,eD]
       exact⟨kD,hD⟩
     · have hu:unitS L s2 q=s2:=by unfold unitS;rw[if_neg (by rintro⟨_,h | h⟩<;>omega)]
       rw[hu]
       obtain⟨KD,eD,kD,hD⟩:=fin _ _ (kA.trans kB) hB
       simp only[b1]at eD
       simp[Tryz.f71,eA,c1',eB,eb,c2,c3,c4,hobj,eD]
       exact⟨kD,hD⟩
 · have hu:unitS L s2 q=s2:=by unfold unitS;rw[if_neg (fun h=>c2 h.1)]
   rw[hu]
   obtain⟨KD,eD,kD,hD⟩:=fin _ _ (kA.trans kB) hB
   simp only[b1]at eD
   simp[Tryz.f71,eA,c1',eB,eb,c2,hobj,eD]
   exact⟨kD,hD⟩
end
structure Dcl where
 kind:Int
 at_:Int
 name:ByteArray
 n:Int
def dsc (k a:Int)(x:ByteArray)(n:Int):List Value:=[.int .i64 k,.int .i64 a,.string x,.int .i64 n]
def repDcl:Rep Dcl where
 k:=4
 R _ _ x cs:=cs=dsc x.kind x.at_ x.name x.n
 len h:=by subst h;rfl
 move _ _ _ _ h:=h
def tResource:ByteArray:=⟨#[114,101,115,111,117,114,99,101]⟩
def tSemaphore:ByteArray:=⟨#[115,101,109,97,112,104,111,114,101]⟩
def tShared:ByteArray:=⟨#[115,104,97,114,101,100]⟩
def tVar:ByteArray:=⟨#[118,97,114]⟩
def kindP (L:List Tk)(s:PS):Int :=
 if isP L s tResource=true then 1 else if isP L s tSemaphore=true then 2 else if isP L s tShared=true then 3 else if isP L s tVar=true then 4 else 0
def unitsP (L:List Tk)(k:Int)(s:PS):Int × PS:=if k=1∨k=2 then ((numP L s).1,numS L s)else sizeP L s
theorem unitsP_le (L:List Tk)(k:Int)(s:PS):s.le (unitsP L k s).2:=by
 unfold unitsP
 split
 · exact numS_le _ _
 · exact sizeP_le _ _
def dclP (L:List Tk)(k:Int)(s:PS):Dcl:=⟨k,(nameP L s).at_,(nameP L s).name,(unitsP L k (nameS L s)).1⟩
def dclS (L:List Tk)(k:Int)(s:PS):PS:=mustS L (unitsP L k (nameS L s)).2 tSemi
def declsL (L:List Tk):Nat→List Dcl→PS→Option (List Dcl × PS)
 | 0,_,_=>none
 | n + 1, acc, s =>
  if s.c=0 then
   if kindP L s=0 then some (acc,s)
   else declsL L n (acc++[dclP L (kindP L s) s.on]) (dclS L (kindP L s) s.on)
  else some (acc,s)
theorem dclS_lt (L:List Tk)(k:Int)(s:PS):s.le (dclS L k s):=((nameS_le L s).1.le_trans (unitsP_le _ _ _)).le_trans (mustS_le _ _ _)
theorem declsL_le {L:List Tk}:∀ {n:Nat}{acc:List Dcl}{s s':PS}{l:List Dcl},declsL L n acc s=some (l,s')→s.le s'
 | 0,_,_,_,_,h=>by cases h
 | n + 1, acc, s, s', l, h => by
  rw[declsL]at h
  split at h
  · split at h
    · cases h;exact PS.le_refl _
    · exact ((PS.le_on s).le_trans (dclS_lt _ _ _)).le_trans (declsL_le h)
  · cases h;exact PS.le_refl _
theorem tf_dcl:TF Tryz.prog 28 4:=⟨_,_,_,by simp,by simp,by simp;rfl,by omega,by simp;rfl,rfl,by omega,rfl⟩
theorem pl_decls:planOf Tryz.prog (drawN Tryz.f36 0)=some [none,none,(some (0,1)),(some (0,1)),none,none,none,none]:=by decide +kernel
def DeclsI (r lid:Nat)(L:List Tk)(H:Heap)(res:List Dcl)(s':PS)(n m:Nat)(t:List Value)(H':Heap):Prop :=
 m≤n∧∃ acc s v,declsL L m acc s=some (res,s')∧rd t 3=v∧repDcl.G H' (fun i=>H.n≤i) v acc∧At H r lid L s H'∧acc.length≤s.p
section
variable {E:Hooks} (hE:Plain E) {r lid:Nat} {L:List Tk}
include hE
theorem decls_run {n:Nat}{s s':PS}{l:List Dcl}(hx:declsL L n [] s=some (l,s')){H:Heap}(h:RD H r lid L s):Gives ((run Tryz.prog E).call 36 [.pointer (some ⟨r,0,none⟩)] H) (RetG repDcl H r lid L l s'):=by
 have hr:=h.lt
 have hl:=h.lid_lt
 have hsm:=h.small
 rw[c_decls hE,callB,bodyOf]
 simp[Tryz.f36]
 refine loop_wp (DeclsI r lid L H l s' n) n ?_ ?_
 · exact⟨Nat.le_refl n,[],_,.slice (some ⟨H.n,0,none⟩) 0 0,hx,by simp,repDcl.G_empty H (Nat.le_refl _),⟨Same.push _ _ _,h.same (Same.push _ _ _)⟩,by simp⟩
 rintro m t H' hk ⟨hmn,acc,s1,v,hxl,g3,hG,hA,hlen⟩
 have ht:t.length=60:=hk.1.trans (by simp[len_Bs])
 have hh:=hk.all [0] (by decide +kernel)
 simp at hh
 have eb:=bad_run hE hA.rd
 have nS:=hA.n
 cases m with
 | zero=>cases hxl
 | succ m =>
 rw[declsL]at hxl
 by_cases hc:s1.c=0
 · rw[if_pos hc]at hxl
   have l0:Loc H r lid L H'.n s1 (dsc 0 0 ByteArray.empty 0) (H'.push (.row true 0 1 (dsc 0 0 ByteArray.empty 0))) :=
    ⟨hA.push _,Heap.get_push_self _ _,by simp,nS,hr,hl⟩
   have hvr:∀ i,vid v i→i<H'.n∧H.n≤i:=fun i hi=>repDcl.G_lt hG hi
   have tail:∀ (k:Int) (K:Heap),kindP L s1=k→¬k=0→Loc H r lid L H'.n s1.on (dsc k 0 ByteArray.empty 0) K→repDcl.G K (fun i=>H.n≤i∧i≠H'.n) v acc →
     ∃ KA KC KD v' KE,(run Tryz.prog E).call 35 [.pointer (some ⟨r,0,none⟩)] K=some (.val (.agg ⟨[.int .i64 (nameP L s1.on).at_,.string (nameP L s1.on).name]⟩),KA)∧H'.n<KA.n∧KA.get H'.n = .row true 0 1 (dsc k 0 ByteArray.empty 0) ∧
      (k=1∨k=2→(run Tryz.prog E).call 70 [.pointer (some ⟨r,0,none⟩)] ((KA.push (.row true 0 1 [.int .i64 (nameP L s1.on).at_,.string (nameP L s1.on).name])).set H'.n (.row true 0 1 (dsc k (nameP L s1.on).at_ (nameP L s1.on).name 0)))=some (.val (.tuple #[.int .i64 (unitsP L k (nameS L s1.on)).1,.int .i64 (numP L (nameS L s1.on)).2]),KC)) ∧
      (¬(k=1∨k=2)→(run Tryz.prog E).call 71 [.pointer (some ⟨r,0,none⟩)] ((KA.push (.row true 0 1 [.int .i64 (nameP L s1.on).at_,.string (nameP L s1.on).name])).set H'.n (.row true 0 1 (dsc k (nameP L s1.on).at_ (nameP L s1.on).name 0)))=some (.val (.int .i64 (unitsP L k (nameS L s1.on)).1),KC)) ∧
      KC.get H'.n = .row true 0 1 (dsc k (nameP L s1.on).at_ (nameP L s1.on).name 0)∧H'.n<KC.n ∧
      (run Tryz.prog E).call 34 [.pointer (some ⟨r,0,none⟩),.string tSemi] (KC.set H'.n (.row true 0 1 (dsc k (nameP L s1.on).at_ (nameP L s1.on).name (unitsP L k (nameS L s1.on)).1)))=some (.val (.tuple #[]),KD) ∧
      KD.get H'.n = .row true 0 1 (dsc k (nameP L s1.on).at_ (nameP L s1.on).name (unitsP L k (nameS L s1.on)).1) ∧
      exAppend Tryz.prog [28,28] v (.slice (some ⟨KD.n,0,none⟩) 1 1) (KD.push (.row true 0 4 (dsc k (nameP L s1.on).at_ (nameP L s1.on).name (unitsP L k (nameS L s1.on)).1)))=some (v',KE) ∧
      repDcl.G KE (fun i=>H.n≤i) v' (acc++[dclP L k s1.on])∧At H r lid L (dclS L k s1.on) KE:=by
    intro k K hk1 hk0 lK gK
    obtain⟨KA,eA,lA,kA⟩:=lK.name hE
    have lB:=(lA.push (.row true 0 1 [.int .i64 (nameP L s1.on).at_,.string (nameP L s1.on).name])).put (dsc k (nameP L s1.on).at_ (nameP L s1.on).name 0)
    have nA:=kA.n
    have tA:=lA.lt
    have mv:∀ {A B:Heap} {X:Nat→Prop},repDcl.G A (fun i=>H.n≤i∧i≠H'.n) v acc→Same X A B→(∀ i,X i→i=r∨i=H'.n)→repDcl.G B (fun i=>H.n≤i∧i≠H'.n) v acc :=
     fun g k hX=>repDcl.G_move k (fun i hi _=>⟨hi,fun hx=>by have:=hX i hx;omega⟩) g
    have gA:=mv gK kA (fun i h => .inl h)
    have gB:=mv (mv gA (Same.push (fun _=>False) _ (.row true 0 1 [.int .i64 (nameP L s1.on).at_,.string (nameP L s1.on).name])) (fun _ h=>h.elim)) (Same.set (X:=fun i=>i=H'.n) _ (by simp;omega) rfl (.row true 0 1 (dsc k (nameP L s1.on).at_ (nameP L s1.on).name 0))) (fun i h => .inr h)
    have mid:∃ KC,(k=1∨k=2→(run Tryz.prog E).call 70 [.pointer (some ⟨r,0,none⟩)] ((KA.push (.row true 0 1 [.int .i64 (nameP L s1.on).at_,.string (nameP L s1.on).name])).set H'.n (.row true 0 1 (dsc k (nameP L s1.on).at_ (nameP L s1.on).name 0)))=some (.val (.tuple #[.int .i64 (unitsP L k (nameS L s1.on)).1,.int .i64 (numP L (nameS L s1.on)).2]),KC)) ∧
      (¬(k=1∨k=2)→(run Tryz.prog E).call 71 [.pointer (some ⟨r,0,none⟩)] ((KA.push (.row true 0 1 [.int .i64 (nameP L s1.on).at_,.string (nameP L s1.on).name])).set H'.n (.row true 0 1 (dsc k (nameP L s1.on).at_ (nameP L s1.on).name 0)))=some (.val (.int .i64 (unitsP L k (nameS L s1.on)).1),KC)) ∧
      Loc H r lid L H'.n (unitsP L k (nameS L s1.on)).2 (dsc k (nameP L s1.on).at_ (nameP L s1.on).name 0) KC∧Same (·=r) ((KA.push (.row true 0 1 [.int .i64 (nameP L s1.on).at_,.string (nameP L s1.on).name])).set H'.n (.row true 0 1 (dsc k (nameP L s1.on).at_ (nameP L s1.on).name 0))) KC:=by
     by_cases hk:k=1∨k=2
     · obtain⟨KC,eC,lC,kC⟩:=lB.num hE
       have hu:unitsP L k (nameS L s1.on)=((numP L (nameS L s1.on)).1,numS L (nameS L s1.on)):=by unfold unitsP;rw[if_pos hk]
       rw[hu]
       exact⟨KC,fun _=>eC,fun h=>absurd hk h,lC,kC⟩
     · obtain⟨KC,eC,kC,dC⟩:=size_run hE lB.at_.rd
       have hu:unitsP L k (nameS L s1.on)=sizeP L (nameS L s1.on):=by unfold unitsP;rw[if_neg hk]
       rw[hu]
       exact⟨KC,fun h=>absurd h hk,fun _=>eC,lB.step kC dC,kC⟩
    obtain⟨KC,eC1,eC2,lC,kC⟩:=mid
    have gC:=mv gB kC (fun i h => .inl h)
    have lC2:=lC.put (dsc k (nameP L s1.on).at_ (nameP L s1.on).name (unitsP L k (nameS L s1.on)).1)
    have gC2:=mv gC (Same.set (X:=fun i=>i=H'.n) KC lC.lt rfl (.row true 0 1 (dsc k (nameP L s1.on).at_ (nameP L s1.on).name (unitsP L k (nameS L s1.on)).1))) (fun i h => .inr h)
    obtain⟨KD,eD,lD,kD⟩:=lC2.must hE tSemi
    have gD:=mv gC2 kD (fun i h => .inl h)
    have nD:=lD.at_.n
    have tD:=lD.lt
    have gD2:repDcl.G KD (fun i=>H.n≤i) v acc:=repDcl.G_move (Same.refl (fun _=>False) _) (fun i hi _=>⟨hi.1,fun h=>h⟩) gD
    have hvD:∀ i,vid v i→H.n≤i:=fun i hi=>(hvr i hi).2
    have hpl:=hA.rd.place
    obtain⟨v',KE,eE,gE,kE⟩:=repDcl.G_app tf_dcl gD2 (fun i hi=>by omega) (by omega) (a:=dclP L k s1.on) (c:=dsc k (nameP L s1.on).at_ (nameP L s1.on).name (unitsP L k (nameS L s1.on)).1) rfl
    have aE:At H r lid L (dclS L k s1.on) KE:=⟨lD.at_.same.then kE (fun i hi => .inr (hvD i hi)),lD.at_.rd.keep kE (fun hi=>by have:=hvD _ hi;omega) (fun hi=>by have:=hvD _ hi;omega)⟩
    exact⟨KA,KC,KD,v',KE,eA,tA,lA.get,eC1,eC2,lC.get,lC.lt,eD,lD.get,eE,gE,aE⟩
   have mv:∀ {A B:Heap} {X:Nat→Prop},repDcl.G A (fun i=>H.n≤i∧i≠H'.n) v acc→Same X A B→(∀ i,X i→i=r∨i=H'.n)→repDcl.G B (fun i=>H.n≤i∧i≠H'.n) v acc :=
    fun g k hX=>repDcl.G_move k (fun i hi _=>⟨hi,fun hx=>by have:=hX i hx;omega⟩) g
   have q0:=mv (repDcl.G_move (Same.refl (fun _=>False) _) (S':=fun i=>H.n≤i∧i≠H'.n) (fun i hi hlt=>⟨⟨hi,by omega⟩,fun h=>h⟩) hG) (Same.push (fun _=>False) _ (.row true 0 1 (dsc 0 0 ByteArray.empty 0))) (fun _ h=>h.elim)
   simp only[dsc]at l0 q0
   by_cases c1:isP L s1 tResource=true
   · have hk1:kindP L s1=1:=by unfold kindP;simp[c1]
     rw[hk1,if_neg (by omega)]at hxl
     obtain⟨K1,e1,l1,k1⟩:=l0.take_yes hE c1
     have q1:=mv q0 k1 (fun i h => .inl h)
     have lK:=l1.put (dsc 1 0 ByteArray.empty 0)
     have qK:=mv q1 (Same.set (X:=fun i=>i=H'.n) K1 l1.lt rfl (.row true 0 1 (dsc 1 0 ByteArray.empty 0))) (fun i h => .inr h)
     obtain⟨KA,KC,KD,v',KE,eA,tA,gA,eN1,eN2,gC,tC,eD,gD,eE,gE,aE⟩:=tail 1 _ hk1 (by omega) lK qK
     have eN:=eN1 (by omega)
     have gK:=l1.get
     have tK:=l1.lt
     have tD:H'.n<KD.n:=Heap.lt_of_get gD (by simp)
     simp only[tResource,tSemi,dsc]at e1 gK eA gA eN gC eD gD eE
     simp[ht,g3,hh,eb,hc,e1,gK,tK,eA]
     refine region_plan (by exact pl_decls) ?_
     simp[ht,g3,hh,gA,tA,Heap.set_set,eN,gC,tC,eD,gD,tD,eE]
     refine⟨m,by omega,by omega,_,_,v',hxl,by simp[ht],gE,aE,?_⟩
     have:=dclS_lt L 1 s1.on
     have:=this.place
     simp[PS.on]at this ⊢
     omega
   have c1':isP L s1 tResource=false:=by simpa using c1
   obtain⟨K1,e1,l1,k1⟩:=l0.take_no hE c1'
   have q1:=mv q0 k1 (fun i h => .inl h)
   simp only[tResource]at e1
   by_cases c2:isP L s1 tSemaphore=true
   · have hk1:kindP L s1=2:=by unfold kindP;simp[c1',c2]
     rw[hk1,if_neg (by omega)]at hxl
     obtain⟨K2,e2,l2,k2⟩:=l1.take_yes hE c2
     have q2:=mv q1 k2 (fun i h => .inl h)
     have lK:=l2.put (dsc 2 0 ByteArray.empty 0)
     have qK:=mv q2 (Same.set (X:=fun i=>i=H'.n) K2 l2.lt rfl (.row true 0 1 (dsc 2 0 ByteArray.empty 0))) (fun i h => .inr h)
     obtain⟨KA,KC,KD,v',KE,eA,tA,gA,eN1,eN2,gC,tC,eD,gD,eE,gE,aE⟩:=tail 2 _ hk1 (by omega) lK qK
     have eN:=eN1 (by omega)
     have gK:=l2.get
     have tK:=l2.lt
     have tD:H'.n<KD.n:=Heap.lt_of_get gD (by simp)
     simp only[tSemaphore,tSemi,dsc]at e2 gK eA gA eN gC eD gD eE
     simp[ht,g3,hh,eb,hc,e1,e2,gK,tK,eA]
     refine region_plan (by exact pl_decls) ?_
     simp[ht,g3,hh,gA,tA,Heap.set_set,eN,gC,tC,eD,gD,tD,eE]
     refine⟨m,by omega,by omega,_,_,v',hxl,by simp[ht],gE,aE,?_⟩
     have:=dclS_lt L 2 s1.on
     have:=this.place
     simp[PS.on]at this ⊢
     omega
   have c2':isP L s1 tSemaphore=false:=by simpa using c2
   obtain⟨K2,e2,l2,k2⟩:=l1.take_no hE c2'
   have q2:=mv q1 k2 (fun i h => .inl h)
   simp only[tSemaphore]at e2
   by_cases c3:isP L s1 tShared=true
   · have hk1:kindP L s1=3:=by unfold kindP;simp[c1',c2',c3]
     rw[hk1,if_neg (by omega)]at hxl
     obtain⟨K3,e3,l3,k3⟩:=l2.take_yes hE c3
     have q3:=mv q2 k3 (fun i h => .inl h)
     have lK:=l3.put (dsc 3 0 ByteArray.empty 0)
     have qK:=mv q3 (Same.set (X:=fun i=>i=H'.n) K3 l3.lt rfl (.row true 0 1 (dsc 3 0 ByteArray.empty 0))) (fun i h => .inr h)
     obtain⟨KA,KC,KD,v',KE,eA,tA,gA,eN1,eN2,gC,tC,eD,gD,eE,gE,aE⟩:=tail 3 _ hk1 (by omega) lK qK
     have eN:=eN2 (by omega)
     have gK:=l3.get
     have tK:=l3.lt
     have tD:H'.n<KD.n:=Heap.lt_of_get gD (by simp)
     simp only[tShared,tSemi,dsc]at e3 gK eA gA eN gC eD gD eE
     simp[ht,g3,hh,eb,hc,e1,e2,e3,gK,tK,eA]
     refine region_plan (by exact pl_decls) ?_
     simp[ht,g3,hh,gA,tA,Heap.set_set,eN,gC,tC,eD,gD,tD,eE]
     refine⟨m,by omega,by omega,_,_,v',hxl,by simp[ht],gE,aE,?_⟩
     have:=dclS_lt L 3 s1.on
     have:=this.place
     simp[PS.on]at this ⊢
     omega
   have c3':isP L s1 tShared=false:=by simpa using c3
   obtain⟨K3,e3,l3,k3⟩:=l2.take_no hE c3'
   have q3:=mv q2 k3 (fun i h => .inl h)
   simp only[tShared]at e3
   by_cases c4:isP L s1 tVar=true
   · have hk1:kindP L s1=4:=by unfold kindP;simp[c1',c2',c3',c4]
     rw[hk1,if_neg (by omega)]at hxl
     obtain⟨K4,e4,l4,k4⟩:=l3.take_yes hE c4
     have q4:=mv q3 k4 (fun i h => .inl h)
     have lK:=l4.put (dsc 4 0 ByteArray.empty 0)
     have qK:=mv q4 (Same.set (X:=fun i=>i=H'.n) K4 l4.lt rfl (.row true 0 1 (dsc 4 0 ByteArray.empty 0))) (fun i h => .inr h)
     obtain⟨KA,KC,KD,v',KE,eA,tA,gA,eN1,eN2,gC,tC,eD,gD,eE,gE,aE⟩:=tail 4 _ hk1 (by omega) lK qK
     have eN:=eN2 (by omega)
     have gK:=l4.get
     have tK:=l4.lt
     have tD:H'.n<KD.n:=Heap.lt_of_get gD (by simp)
     simp only[tVar,tSemi,dsc]at e4 gK eA gA eN gC eD gD eE
     simp[ht,g3,hh,eb,hc,e1,e2,e3,e4,gK,tK,eA]
     refine region_plan (by exact pl_decls) ?_
     simp[ht,g3,hh,gA,tA,Heap.set_set,eN,gC,tC,eD,gD,tD,eE]
     refine⟨m,by omega,by omega,_,_,v',hxl,by simp[ht],gE,aE,?_⟩
     have:=dclS_lt L 4 s1.on
     have:=this.place
     simp[PS.on]at this ⊢
     omega
   have c4':isP L s1 tVar=false:=by simpa using c4
   obtain⟨K4,e4,l4,k4⟩:=l3.take_no hE c4'
   have q4:=mv q3 k4 (fun i h => .inl h)
   simp only[tVar]at e4
   have hk0:kindP L s1=0:=by unfold kindP;simp[c1',c2',c3',c4']
   rw[if_pos hk0]at hxl
   cases hxl
   simp[ht,g3,hh,eb,hc,e1,e2,e3,e4]
   exact⟨v,rfl,l4.at_.same,l4.at_.rd,repDcl.G_move (Same.refl (fun _=>False) _) (fun i hi _=>⟨hi.1,fun h=>h⟩) q4⟩
 · rw[if_neg hc]at hxl
   cases hxl
   simp[ht,g3,hh,eb,hc]
   exact⟨v,rfl,hA.same,hA.rd,hG⟩
end
def repIdn:Rep Idn where
 k:=2
 R _ _ x cs:=cs=x.cells
 len h:=by subst h;rfl
 move _ _ _ _ h:=h
structure Prc where
 at_:Int
 name:ByteArray
 params:List Idn
 vars:List Idn
 body:List Stm
def pc5 (a:Int)(x:ByteArray)(v1 v2 v3:Value):List Value:=[.int .i64 a,.string x,v1,v2,v3]
def RPrc (H:Heap)(S:Nat→Prop)(p:Prc)(cs:List Value):Prop:=∃ v1 v2 v3,cs=pc5 p.at_ p.name v1 v2 v3∧repIdn.G H S v1 p.params∧repIdn.G H S v2 p.vars∧repStm.G H S v3 p.body
def repPrc:Rep Prc where
 k:=5
 R:=RPrc
 len h:=by obtain⟨v1,v2,v3,rfl,_⟩:=h;rfl
 move k hs b cs h:=by
  obtain⟨v1,v2,v3,e,h1,h2,h3⟩:=h
  exact⟨v1,v2,v3,e,repIdn.G_move k hs h1,repIdn.G_move k hs h2,repStm.G_move k hs h3⟩
def tBegin:ByteArray:=⟨#[98,101,103,105,110]⟩
def tEnd:ByteArray:=⟨#[101,110,100]⟩
def identsL (L:List Tk):Nat→List Idn→Bool→PS→Option (List Idn × PS)
 | 0,_,_,_=>none
 | n + 1, acc, again, s =>
  if again=true∧s.c=0 then identsL L n (acc++[nameP L s]) (isP L (nameS L s) comma) (takeS L (nameS L s) comma)else some (acc,s)
def varsL (L:List Tk):Nat→List Idn→PS→Option (List Idn × PS)
 | 0,_,_=>none
 | n + 1, acc, s =>
  if isP L s tVar=true then varsL L n (acc++[nameP L s.on]) (mustS L (nameS L s.on) tSemi)else some (acc,s)
def paramsP (L:List Tk)(n:Nat)(s:PS):Option (List Idn × PS) :=
 if isP L s (b1 41)=true then some ([],s)else identsL L n [] true s
def procP (B:BrP)(L:List Tk)(n:Nat)(s:PS):Option (Prc × PS) :=
 (paramsP L n (mustS L (nameS L s) (b1 40))).bind fun a =>
  (varsL L n [] (mustS L (mustS L a.2 (b1 41)) tSemi)).bind fun b =>
   (stmtsL B L n 1 [] true (mustS L b.2 tBegin)).map fun c =>
    (⟨(nameP L s).at_,(nameP L s).name,a.1,b.1,c.1⟩,mustS L (mustS L c.2 tEnd) tSemi)
theorem identsL_le {L:List Tk}:∀ {n:Nat}{acc:List Idn}{again:Bool}{s s':PS}{l:List Idn},identsL L n acc again s=some (l,s')→s.le s'
 | 0,_,_,_,_,_,h=>by cases h
 | n + 1, acc, again, s, s', l, h => by
  rw[identsL]at h
  split at h
  · exact ((nameS_le L s).1.le_trans (takeS_le _ _ _)).le_trans (identsL_le h)
  · cases h;exact PS.le_refl _
theorem varsL_le {L:List Tk}:∀ {n:Nat}{acc:List Idn}{s s':PS}{l:List Idn},varsL L n acc s=some (l,s')→s.le s'
 | 0,_,_,_,_,h=>by cases h
 | n + 1, acc, s, s', l, h => by
  rw[varsL]at h
  split at h
  · exact (((PS.le_on s).le_trans (nameS_le L s.on).1).le_trans (mustS_le _ _ _)).le_trans (varsL_le h)
  · cases h;exact PS.le_refl _
theorem procP_lt {B:BrP}{L:List Tk}(hB:BLt B L){n:Nat}{s s':PS}{p:Prc}(h:procP B L n s=some (p,s')):s.lt s':=by
 unfold procP at h
 simp only[Option.bind_eq_some_iff,Option.map_eq_some_iff]at h
 obtain⟨⟨a,s1⟩,h1,⟨b,s2⟩,h2,⟨c,s3⟩,h3,h4⟩:=h
 cases h4
 have k1:(mustS L (nameS L s) (b1 40)).le s1:=by
  unfold paramsP at h1
  split at h1
  · cases h1;exact PS.le_refl _
  · exact identsL_le h1
 exact (name_lt L s).le_trans ((((mustS_le _ _ _).le_trans k1).le_trans (((mustS_le _ _ _).le_trans (mustS_le _ _ _)).le_trans (varsL_le h2))).le_trans (((mustS_le _ _ _).le_trans ((st_le hB n).2.1 _ _ _ _ _ _ h3)).le_trans ((mustS_le _ _ _).le_trans (mustS_le _ _ _))))
theorem tf_idn:TF Tryz.prog 61 2:=⟨_,_,_,by simp,by simp,by simp;rfl,by omega,by simp;rfl,rfl,by omega,rfl⟩
theorem tf_prc:TF Tryz.prog 29 5:=⟨_,_,_,by simp,by simp,by simp;rfl,by omega,by simp;rfl,rfl,by omega,rfl⟩
theorem pl_proc0:planOf Tryz.prog (drawN Tryz.f38 0)=some [(some (0,2)),(some (0,2)),none,none,none,none,none,none]:=by decide +kernel
theorem pl_proc1:planOf Tryz.prog (drawN Tryz.f38 1)=some [(some (0,2)),(some (0,2)),none,none,none,none,none,none]:=by decide +kernel
theorem Loc.grow {α:Type}(ρ:Rep α){t:TypeId}(T:TF Tryz.prog t ρ.k){Hp:Heap}{r lid:Nat}{L:List Tk}{sid:Nat}{s:PS}{sc:List Value}{K:Heap}(l:Loc Hp r lid L sid s sc K){v:Value}{acc:List α}
  (g:ρ.G K (fun i=>sid<i) v acc) (hl:acc.length≤100000) {a:α} {c:List Value} (ha:ρ.R K (fun i=>sid<i∧¬vid v i) a c) :
  ∃ b' K',exAppend Tryz.prog [t,t] v (.slice (some ⟨K.n,0,none⟩) 1 1) (K.push (.row true 0 ρ.k c))=some (.slice b' (acc.length+1) (acc.length+1),K')∧Loc Hp r lid L sid s sc K'∧K'.get sid = .row true 0 1 sc∧sid<K'.n∧ρ.G K' (fun i=>sid<i) (.slice b' (acc.length+1) (acc.length+1)) (acc++[a]):=by
 have t1:=l.lt
 have ow:=l.own
 have rl:=l.rl
 have hv:∀ i,vid v i→sid<i:=fun i hi=>(ρ.G_lt g hi).2
 obtain⟨v',K',e,gv,k⟩:=ρ.G_app T g (fun i hi=>by omega) hl ha
 have nk:=k.n
 obtain⟨b',rfl⟩:=ρ.G_slice gv
 have e1:(acc++[a]).length=acc.length+1:=by simp
 rw[e1]at e gv
 have g2:=k.at l.get (by simp) (fun hi=>by have:=hv _ hi;omega)
 exact⟨b',K',e,⟨⟨l.at_.same.then k (fun i hi => .inr (by have:=hv _ hi;omega)),l.at_.rd.keep k (fun hi=>by have:=hv _ hi;omega) (fun hi=>by have:=hv _ hi;omega)⟩,g2,by omega,ow,rl⟩,g2,by omega,gv⟩
theorem Loc.grow2 {α:Type}(ρ:Rep α){t:TypeId}(T:TF Tryz.prog t ρ.k){Hp:Heap}{r lid:Nat}{L:List Tk}{sid:Nat}{s:PS}{sc:List Value}{K:Heap}(l:Loc Hp r lid L sid s sc K){v:Value}{acc:List α}{bd:Nat}(hbd:sid<bd)(hbk:bd≤K.n)
  (g:ρ.G K (fun i=>bd≤i) v acc) (hl:acc.length≤100000) {a:α} {c:List Value} (ha:ρ.R K (fun i=>bd≤i∧¬vid v i) a c) :
  ∃ b' K',exAppend Tryz.prog [t,t] v (.slice (some ⟨K.n,0,none⟩) 1 1) (K.push (.row true 0 ρ.k c))=some (.slice b' (acc.length+1) (acc.length+1),K')∧Loc Hp r lid L sid s sc K'∧K'.get sid = .row true 0 1 sc∧sid<K'.n∧ρ.G K' (fun i=>bd≤i) (.slice b' (acc.length+1) (acc.length+1)) (acc++[a])∧Same (fun i=>bd≤i) K K':=by
 have t1:=l.lt
 have ow:=l.own
 have rl:=l.rl
 have hv:∀ i,vid v i→bd≤i:=fun i hi=>(ρ.G_lt g hi).2
 obtain⟨v',K',e,gv,k⟩:=ρ.G_app T g (fun i hi=>by omega) hl ha
 have nk:=k.n
 obtain⟨b',rfl⟩:=ρ.G_slice gv
 have e1:(acc++[a]).length=acc.length+1:=by simp
 rw[e1]at e gv
 have g2:=k.at l.get (by simp) (fun hi=>by have:=hv _ hi;omega)
 exact⟨b',K',e,⟨⟨l.at_.same.then k (fun i hi => .inr (by have:=hv _ hi;omega)),l.at_.rd.keep k (fun hi=>by have:=hv _ hi;omega) (fun hi=>by have:=hv _ hi;omega)⟩,g2,by omega,ow,rl⟩,g2,by omega,gv,k.mono hv⟩
def ProcJ (r lid:Nat)(L:List Tk)(H:Heap)(at_:Int)(name:ByteArray)(res:List Idn)(s':PS)(t:List Value)(K:Heap):Prop :=
 ∃ sid v,H.n<sid∧Loc (H.push (.row true 0 1 (pc5 0 ByteArray.empty nl nl nl))) r lid L sid s' (pc5 at_ name v nl nl) K∧repIdn.G K (fun i=>sid<i) v res ∧
  t.length=58∧rd t 0 = .pointer (some ⟨r,0,none⟩)∧rd t 2 = .pointer (some ⟨H.n,0,none⟩)∧rd t 4 = .pointer (some ⟨sid,0,none⟩)
def IdentsI (r lid:Nat)(L:List Tk)(H:Heap)(sid:Nat)(at_:Int)(name:ByteArray)(res:List Idn)(s':PS)(n m:Nat)(t:List Value)(K:Heap):Prop :=
 m≤n∧∃ acc again s v,identsL L m acc again s=some (res,s')∧rd t 5 = .bool again∧Loc (H.push (.row true 0 1 (pc5 0 ByteArray.empty nl nl nl))) r lid L sid s (pc5 at_ name v nl nl) K∧repIdn.G K (fun i=>sid<i) v acc∧(s.c=0→acc.length≤s.p)
def VarsI (r lid:Nat)(L:List Tk)(H:Heap)(sid:Nat)(at_:Int)(name:ByteArray)(ps:List Idn)(v:Value)(bd:Nat)(res:List Idn)(s':PS)(n m:Nat)(t:List Value)(K:Heap):Prop :=
 m≤n∧∃ acc s w,varsL L m acc s=some (res,s')∧Loc (H.push (.row true 0 1 (pc5 0 ByteArray.empty nl nl nl))) r lid L sid s (pc5 at_ name v w nl) K∧repIdn.G K (fun i=>sid<i∧i<bd) v ps∧repIdn.G K (fun i=>bd≤i) w acc∧acc.length≤s.p∧bd≤K.n
def VarsJ (r lid:Nat)(L:List Tk)(H:Heap)(sid:Nat)(at_:Int)(name:ByteArray)(ps vs:List Idn)(s':PS)(t:List Value)(K:Heap):Prop :=
 ∃ v w,Loc (H.push (.row true 0 1 (pc5 0 ByteArray.empty nl nl nl))) r lid L sid s' (pc5 at_ name v w nl) K∧repIdn.G K (fun i=>sid<i) v ps∧repIdn.G K (fun i=>sid<i) w vs ∧
  t.length=58∧rd t 0 = .pointer (some ⟨r,0,none⟩)∧rd t 2 = .pointer (some ⟨H.n,0,none⟩)∧rd t 4 = .pointer (some ⟨sid,0,none⟩)
section
variable {E:Hooks} (hE:Plain E) {B:BrP} {r lid:Nat} {L:List Tk}
include hE
theorem proc_run {n:Nat}(ih:StmtsOK E B r lid L n){s s':PS}{p:Prc}(hx:procP B L n s=some (p,s')){H:Heap}(h:RD H r lid L s):Gives ((run Tryz.prog E).call 38 [.pointer (some ⟨r,0,none⟩)] H) (RetR repPrc H r lid L p s'):=by
 have hr:=h.lt
 have hl:=h.lid_lt
 have hsm:=h.small
 have aP:At (H.push (.row true 0 1 (pc5 0 ByteArray.empty nl nl nl))) r lid L s (H.push (.row true 0 1 (pc5 0 ByteArray.empty nl nl nl))):=⟨Same.refl _ _,h.same (Same.push _ _ _)⟩
 obtain⟨HA,eA,kA,hA⟩:=name_run hE aP.rd
 have aA:=aP.go kA hA
 have nA:=kA.n
 simp at nA
 unfold procP at hx
 simp only[Option.bind_eq_some_iff,Option.map_eq_some_iff]at hx
 obtain⟨⟨ps,s1⟩,hx1,⟨vs,s2⟩,hx2,⟨bd,s3⟩,hx3,hx4⟩:=hx
 cases hx4
 generalize hnm:nameP L s=nm at *
 have aB:=(aA.push (.row true 0 1 nm.cells)).push (.row true 0 1 (pc5 nm.at_ nm.name nl nl nl))
 have l0:Loc (H.push (.row true 0 1 (pc5 0 ByteArray.empty nl nl nl))) r lid L (HA.n+1) (nameS L s) (pc5 nm.at_ nm.name nl nl nl) ((HA.push (.row true 0 1 nm.cells)).push (.row true 0 1 (pc5 nm.at_ nm.name nl nl nl))) :=
  ⟨aB,Heap.get_push_self _ _,by simp,by simp;omega,by simp;omega,by simp;omega⟩
 obtain⟨K1,e1,l1,-⟩:=l0.must hE (b1 40)
 obtain⟨K2,e2,l2,-⟩:=l1.is hE (b1 41)
 rw[c_proc hE,callB,bodyOf]
 simp only[pc5,nl,Idn.cells,b1]at eA e1 e2
 simp[Tryz.f38,eA,e1,e2]
 refine ends_cut (ProcJ r lid L H nm.at_ nm.name ps s1) (ends_cond (fun hb => ?_) (fun hb => ?_)) ?_
 · have hi:isP L (mustS L (nameS L s) (b1 40)) (b1 41)=false:=by simpa [b1] using hb
   unfold paramsP at hx1
   rw[if_neg (by simp[hi])]at hx1
   simp
   refine loop_wp (IdentsI r lid L H (HA.n+1) nm.at_ nm.name ps s1 n) n ?_ ?_
   · exact⟨Nat.le_refl n,[],true,_,nl,hx1,by simp,l2,repIdn.G_nil _ _,fun _=>by simp⟩
   rintro m t K hk ⟨hmn,acc,again,s4,v,hxl,g5,lF,gF,hlen⟩
   have ht:t.length=58:=hk.1.trans (by simp[len_Bs])
   have hh:=hk.all [0,2,4] (by decide +kernel)
   simp at hh
   obtain⟨u0,u2,u4⟩:=hh
   have eb:=bad_run hE lF.at_.rd
   cases m with
   | zero=>cases hxl
   | succ m =>
   rw[identsL]at hxl
   by_cases hg:again=true∧s4.c=0
   · rw[if_pos hg]at hxl
     obtain⟨rfl,hc⟩:=hg
     obtain⟨KA,eN,lA,kN⟩:=lF.name hE
     have gA:=lF.fld gF kN
     obtain⟨b0,rfl⟩:=repIdn.G_slice gF
     have hpl:=lF.at_.rd.place
     obtain⟨b',KB,eB,lB,gB,tB,rB⟩:=lA.grow repIdn tf_idn gA (by have:=hlen hc;omega) (a:=nameP L s4) (c:=(nameP L s4).cells) rfl
     have lC:=lB.put (pc5 nm.at_ nm.name (.slice b' (acc.length+1) (acc.length+1)) nl nl)
     have rC:=lB.fld_put rB (.row true 0 1 (pc5 nm.at_ nm.name (.slice b' (acc.length+1) (acc.length+1)) nl nl))
     obtain⟨KD,eD,kD,hD⟩:=take_run hE lC.at_.rd comma
     have lD:=lC.step kD hD
     have rD:=lC.fld rC kD
     have g1:=lF.get
     have g2:=lA.get
     have t2:=lA.lt
     simp only[repIdn,Idn.cells,pc5,nl,comma]at eB g1 g2 gB eD
     simp[ht,g5,u0,u2,u4,eb,hc]
     refine region_plan (by exact pl_proc0) ?_
     simp[ht,g5,u0,u2,u4,g1,g2,t2,eN,eB,gB,tB,eD]
     refine⟨m,by omega,by omega,_,_,_,.slice b' (acc.length+1) (acc.length+1),hxl,by simp[ht,comma],lD,rD,fun e0 => ?_⟩
     have h1:=takeS_c L (nameS L s4) comma
     have h2:=(name_lt L s4).on (by rw[← h1.1];exact e0)
     have h4:=hlen hc
     simp
     omega
   · rw[if_neg hg]at hxl
     cases hxl
     have out:∀ t',t'.length=58→rd t' 0 = .pointer (some ⟨r,0,none⟩)→rd t' 2 = .pointer (some ⟨H.n,0,none⟩)→rd t' 4 = .pointer (some ⟨HA.n+1,0,none⟩)→ProcJ r lid L H nm.at_ nm.name ps s1 t' K :=
      fun t' h1 h2 h3 h4=>⟨HA.n+1,v,by omega,lF,gF,h1,h2,h3,h4⟩
     by_cases ha:again=true
     · have hc:¬s1.c=0:=fun e=>hg ⟨ha,e⟩
       subst ha
       simp[ht,g5,u0,u2,u4,eb,hc]
       exact out _ (by simp[ht]) (by simp[ht,u0]) (by simp[ht,u2]) (by simp[ht,u4])
     · have ha':again=false:=by simpa using ha
       subst ha'
       simp[ht,g5,u0,u2,u4]
       exact out _ (by simp[ht]) (by simp[ht,u0]) (by simp[ht,u2]) (by simp[ht,u4])
 · have hi:isP L (mustS L (nameS L s) (b1 40)) (b1 41)=true:=by simpa [b1] using hb
   unfold paramsP at hx1
   rw[if_pos hi]at hx1
   cases hx1
   simp
   exact⟨HA.n+1,nl,by omega,l2,repIdn.G_nil _ _,by simp[len_Bs],by simp,by simp,by simp⟩
 · rintro t K ⟨sid,v,hsid,lJ,gJ,ht,u0,u2,u4⟩
   obtain⟨K3,e3,l3,k3⟩:=lJ.must hE (b1 41)
   obtain⟨K4,e4,l4,k4⟩:=l3.must hE tSemi
   have g4:=l3.fld (lJ.fld gJ k3) k4
   simp only[b1,tSemi]at e3 e4
   simp[ht,u0,u2,u4,e3,e4]
   refine loop_mid (VarsJ r lid L H sid nm.at_ nm.name ps vs s2) (VarsI r lid L H sid nm.at_ nm.name ps v K4.n vs s2 n) n ?_ ?_ ?_
   · exact⟨Nat.le_refl n,[],_,nl,hx2,l4,repIdn.G_move (Same.refl (fun _=>False) _) (fun i hi hlt=>⟨⟨hi,hlt⟩,fun h=>h⟩) g4,repIdn.G_nil _ _,by simp,Nat.le_refl _⟩
   · rintro m t' K' hk ⟨hmn,acc,s4,w,hxl,lF,gv,gF,hlen,hbd⟩
     have t4:=l4.lt
     have ow:=lF.own
     have rl:=lF.rl
     have ht':t'.length=58:=hk.1.trans (by simp[ht])
     have hh:=hk.all [0,2,4] (by decide +kernel)
     simp[ht,u0,u2,u4]at hh
     obtain⟨v0,v2,v4⟩:=hh
     cases m with
     | zero=>cases hxl
     | succ m =>
     rw[varsL]at hxl
     by_cases hi:isP L s4 tVar=true
     · rw[if_pos hi]at hxl
       obtain⟨K5,e5,l5,k5⟩:=lF.take_yes hE hi
       obtain⟨KA,eN,lA,kN⟩:=l5.name hE
       have n5:=k5.n
       have nN:=kN.n
       have gA:repIdn.G KA (fun i=>K4.n≤i) w acc:=repIdn.G_move (k5.trans kN) (fun i hi _=>⟨hi,by omega⟩) gF
       have gvA:repIdn.G KA (fun i=>sid<i∧i<K4.n) v ps:=repIdn.G_move (k5.trans kN) (fun i hi _=>⟨hi,by omega⟩) gv
       obtain⟨b0,rfl⟩:=repIdn.G_slice gF
       obtain⟨bv,rfl⟩:=repIdn.G_slice gv
       have hpl:=lF.at_.rd.place
       obtain⟨b',KB,eB,lB,gB,tB,rB,kB⟩:=lA.grow2 repIdn tf_idn (bd:=K4.n) (by omega) (by omega) gA (by omega) (a:=nameP L s4.on) (c:=(nameP L s4.on).cells) rfl
       have nB:=kB.n
       have gvB:repIdn.G KB (fun i=>sid<i∧i<K4.n) _ ps:=repIdn.G_move kB (fun i hi _=>⟨hi,by omega⟩) gvA
       have lC:=lB.put (pc5 nm.at_ nm.name (.slice bv ps.length ps.length) (.slice b' (acc.length+1) (acc.length+1)) nl)
       have rC:=repIdn.G_set rB tB (S':=fun i=>K4.n≤i) (fun j hj=>⟨hj,by omega⟩) (.row true 0 1 (pc5 nm.at_ nm.name (.slice bv ps.length ps.length) (.slice b' (acc.length+1) (acc.length+1)) nl))
       have rvC:=repIdn.G_set gvB tB (S':=fun i=>sid<i∧i<K4.n) (fun j hj=>⟨hj,by omega⟩) (.row true 0 1 (pc5 nm.at_ nm.name (.slice bv ps.length ps.length) (.slice b' (acc.length+1) (acc.length+1)) nl))
       obtain⟨KD,eD,lD,kD⟩:=lC.must hE tSemi
       have nD:=kD.n
       simp at nD
       have rD:repIdn.G KD (fun i=>K4.n≤i) _ _:=repIdn.G_move kD (fun i hi _=>⟨hi,by omega⟩) rC
       have rvD:repIdn.G KD (fun i=>sid<i∧i<K4.n) _ _:=repIdn.G_move kD (fun i hi _=>⟨hi,by omega⟩) rvC
       have g1:=l5.get
       have g2:=lA.get
       have t2:=lA.lt
       simp only[repIdn,Idn.cells,pc5,nl,tSemi,tVar]at e5 eB g1 g2 gB eD
       simp[ht',v0,v2,v4,e5]
       refine region_plan (by exact pl_proc1) ?_
       simp[ht',v0,v2,v4,g1,g2,t2,eN,eB,gB,tB,eD]
       refine⟨m,by omega,by omega,_,_,.slice b' (acc.length+1) (acc.length+1),hxl,lD,rvD,rD,?_,by omega⟩
       have:=((nameS_le L s4.on).1.le_trans (mustS_le L _ tSemi)).place
       simp[PS.on]at this ⊢
       omega
     · rw[if_neg hi]at hxl
       cases hxl
       have hi':isP L s2 tVar=false:=by simpa using hi
       obtain⟨K5,e5,l5,k5⟩:=lF.take_no hE hi'
       simp only[tVar]at e5
       simp[ht',v0,v2,v4,e5]
       exact⟨v,w,l5,lF.fld (repIdn.G_move (Same.refl (fun _=>False) _) (fun i hi _=>⟨hi.1,fun h=>h⟩) gv) k5,lF.fld (repIdn.G_move (Same.refl (fun _=>False) _) (fun i hi _=>⟨by omega,fun h=>h⟩) gF) k5,by simp[ht'],by simp[ht',v0],by simp[ht',v2],by simp[ht',v4]⟩
   · rintro t' K' hk ⟨v,w,lF,gv,gF,ht',v0,v2,v4⟩
     obtain⟨K5,e5,l5,k5⟩:=lF.must hE tBegin
     obtain⟨o,K6,e6,x,rfl,k6,d6,g6⟩:=ih _ _ _ _ hx3 (by omega) (by omega) _ l5.at_.rd
     have l6:=l5.step k6 d6
     obtain⟨bb,rfl⟩:=repStm.G_slice g6
     obtain⟨bv,rfl⟩:=repIdn.G_slice gv
     obtain⟨bw,rfl⟩:=repIdn.G_slice gF
     have t5:=l5.lt
     have g6':repStm.G K6 (fun i=>sid<i) (.slice bb bd.length bd.length) bd:=repStm.G_move (Same.refl (fun _=>False) _) (fun i hi _=>⟨by omega,fun h=>h⟩) g6
     have l7:=l6.put (pc5 nm.at_ nm.name (.slice bv ps.length ps.length) (.slice bw vs.length vs.length) (.slice bb bd.length bd.length))
     obtain⟨K8,e8,l8,k8⟩:=l7.must hE tEnd
     obtain⟨K9,e9,l9,k9⟩:=l8.must hE tSemi
     have mv:∀ {α:Type} {ρ:Rep α} {v:Value} {q:List α},ρ.G K6 (fun i=>sid<i) v q→ρ.G K9 (fun i=>sid<i) v q:=fun g=>l8.fld (l7.fld (l6.fld_put g _) k8) k9
     have f1:=mv (l5.fld (lF.fld gv k5) k6)
     have f2:=mv (l5.fld (lF.fld gF k5) k6)
     have f3:=mv g6'
     have gl6:=l6.get
     have tl6:=l6.lt
     have gl9:=l9.get
     have hz:K9.get H.n = .row true 0 1 (pc5 0 ByteArray.empty nl nl nl):=l9.at_.same.at (Heap.get_push_self _ _) (by simp) (by omega)
     have hz2:H.n<K9.n:=by have:=l9.at_.n;simp at this;omega
     simp only[tBegin,tEnd,tSemi,pc5,nl]at e5 e6 gl6 e8 e9 gl9 hz
     simp[ht',v0,v2,v4,e5,e6,gl6,tl6,e8,e9,gl9,hz,hz2]
     exact ret_rep repPrc hr hl l9.at_ (a:=⟨nm.at_,nm.name,ps,vs,bd⟩) (repPrc.move (Same.refl (fun _=>False) _) (S:=fun i=>sid<i) (fun i hi _=>⟨by omega,fun h=>h⟩) _ _ ⟨_,_,_,rfl,f1,f2,f3⟩) _
end
structure Src where
 name:ByteArray
 decls:List Dcl
 procs:List Prc
 claims:List Itm
 body:List Stm
def sr5 (x:ByteArray)(v1 v2 v3 v4:Value):List Value:=[.string x,v1,v2,v3,v4]
def RSrc (H:Heap)(S:Nat→Prop)(p:Src)(cs:List Value):Prop:=∃ v1 v2 v3 v4,cs=sr5 p.name v1 v2 v3 v4∧repDcl.G H S v1 p.decls∧repPrc.G H S v2 p.procs∧repItm.G H S v3 p.claims∧repStm.G H S v4 p.body
theorem RSrc.move {X S S':Nat→Prop}{H H':Heap}(k:Same X H H')(hs:∀ i,S i→i<H.n→S' i∧¬X i){p:Src}{cs:List Value}(h:RSrc H S p cs):RSrc H' S' p cs:=by
 obtain⟨v1,v2,v3,v4,e,h1,h2,h3,h4⟩:=h
 exact⟨v1,v2,v3,v4,e,repDcl.G_move k hs h1,repPrc.G_move k hs h2,repItm.G_move k hs h3,repStm.G_move k hs h4⟩
def tProgram:ByteArray:=⟨#[112,114,111,103,114,97,109]⟩
def tProcedure:ByteArray:=⟨#[112,114,111,99,101,100,117,114,101]⟩
def procsL (B:BrP)(L:List Tk):Nat→List Prc→PS→Option (List Prc × PS)
 | 0,_,_=>none
 | n + 1, acc, s =>
  if isP L s tProcedure=true then (procP B L n s.on).bind fun q=>procsL B L n (acc++[q.1]) q.2 else some (acc,s)
def claimsP (L:List Tk)(n:Nat)(s:PS):Option (List Itm × PS) :=
 if isP L s tClaims=true then (itemsL L n [] true s.on).map fun q=>(q.1,mustS L q.2 tSemi)else some ([],s)
def endS (L:List Tk)(s:PS):PS:=if (tok L s.p).kind=5 then s else faultS L s 14
def srcP (B:BrP)(L:List Tk)(n:Nat):Option (Src ⊕ (Int × Int)) :=
 (declsL L n [] (mustS L (nameS L (mustS L ⟨0,0,0⟩ tProgram)) tSemi)).bind fun d =>
  (procsL B L n [] d.2).bind fun p =>
   (claimsP L n p.2).bind fun c =>
    (stmtsL B L n 1 [] true (mustS L c.2 tBegin)).map fun b =>
     let s:=endS L (mustS L (mustS L b.2 tEnd) (b1 46))
     if s.c=0 then .inl ⟨(nameP L (mustS L ⟨0,0,0⟩ tProgram)).name,d.1,p.1,c.1,b.1⟩else .inr (s.c,s.a)
def parseP (B:BrP)(src:List UInt8)(n:Nat):Option (Src ⊕ (Int × Int)) :=
 (lexFrom src (src.length+1) 0 []).bind fun q=>match q with
  | .inr f=>some (.inr f)
  | .inl L=>srcP B L n
def RetP (H:Heap)(res:Src ⊕ (Int × Int))(o:Out)(H':Heap):Prop :=
 Same (fun _=>False) H H'∧match res with
 | .inr (c,p)=>o = .val (.tuple #[.agg ⟨sr5 ByteArray.empty nl nl nl nl⟩,.agg #[.int .i64 c,.int .i64 p]])
 | .inl S=>∃ cs,o = .val (.tuple #[.agg ⟨cs⟩,.agg #[.int .i64 0,.int .i64 0]])∧RSrc H' (fun i=>H.n≤i) S cs
theorem pl_parse0:planOf Tryz.prog (drawN Tryz.f15 0)=some [none,(some (0,1)),none,none]:=by decide +kernel
theorem pl_parse1:planOf Tryz.prog (drawN Tryz.f15 1)=some [(some (0,2)),(some (0,2)),none,none,none,none,none,none]:=by decide +kernel
theorem pl_parse2:planOf Tryz.prog (drawN Tryz.f15 2)=some [none,(some (0,1)),(some (0,1)),(some (0,1)),(some (0,1)),none,none]:=by decide +kernel
end Go.Vm.Parse
namespace Go.Vm.Scope
open Go Go.Proofs Go.Vm.Parse
variable {β:Type}
def ents (f:β→Value)(l:List (ByteArray × β)):List (Value × Value):=l.map fun e=>(.string e.1,f e.2)
def findP (x:ByteArray):List (ByteArray × β)→Option β
 | []=>none
 | e :: l=>if e.1=x then some e.2 else findP x l
theorem ba_beq (a b:ByteArray):(a == b)=decide (a=b):=by
 obtain⟨x⟩:=a
 obtain⟨y⟩:=b
 show (x == y)=_
 by_cases h:x=y
 · subst h;simp
 · rw[decide_eq_false (fun e=>h (by cases e;rfl))]
   simpa using h
theorem find_ents (f:β→Value)(x:ByteArray):∀ l:List (ByteArray × β),mapFind (.string x) (ents f l)=some ((findP x l).map f)
 | []=>rfl
 | e :: l => by
  have ih:=find_ents f x l
  simp only[ents,List.map_cons]at ih ⊢
  simp only[mapFind,keyIs,ba_beq,findP]
  by_cases h:e.1=x
  · simp[h]
  · rw[decide_eq_false (fun h'=>h h'.symm),if_neg h]
    exact ih
theorem put_ents (f:β→Value)(x:ByteArray)(b:β):∀ l:List (ByteArray × β),findP x l=none→mapPut (.string x) (f b) (ents f l)=some (ents f (l++[(x,b)]))
 | [],_=>rfl
 | e :: l, h => by
  simp only[findP]at h
  by_cases he:e.1=x
  · rw[if_pos he]at h;cases h
  · rw[if_neg he]at h
    have ih:=put_ents f x b l h
    simp only[ents,List.map_cons,List.cons_append]at ih ⊢
    simp only[mapPut,keyIs,ba_beq]
    rw[decide_eq_false (fun h'=>he h'.symm)]
    simp only[ih,Option.map_some]
theorem len_ents (f:β→Value)(l:List (ByteArray × β)):(ents f l).length=l.length:=by simp[ents]
structure Nm where
 kind:Int
 index:Int
 size:Int
def Nm.v (x:Nm):Value := .agg ⟨[.int .i64 x.kind,.int .i64 x.index,.int .i64 x.size]⟩
def vI (n:Int):Value := .int .i64 n
structure Cel where
 base:Int
 size:Int
structure Tab where
 names:List (ByteArray × Nm)
 procs:List (ByteArray × Int)
 locals:List (List (ByteArray × Int))
 params:List Int
 cells:List Cel
 semas:List Int
 totals:List Int
 regions:List (ByteArray × Int)
 words:Int
def repInt:Rep Int where
 k:=1
 R _ _ x cs:=cs=[.int .i64 x]
 len h:=by subst h;rfl
 move _ _ _ _ h:=h
def repCel:Rep Cel where
 k:=2
 R _ _ x cs:=cs=[.int .i64 x.base,.int .i64 x.size]
 len h:=by subst h;rfl
 move _ _ _ _ h:=h
def repLoc:Rep (List (ByteArray × Int)) where
 k:=1
 R H S l cs:=(cs=[.map none]∧l=[])∨∃ id,cs=[.map (some id)]∧S id∧H.get id = .map (ents vI l)
 len h:=by rcases h with⟨rfl,_⟩ | ⟨id,rfl,_⟩<;>rfl
 move k hs l cs h:=by
  rcases h with h | ⟨id,h1,h2,h3⟩
  · exact .inl h
  · have:=hs id h2 (Heap.lt_of_get h3 (by simp))
    exact .inr ⟨id,h1,this.1,k.at h3 (by simp) this.2⟩
structure RTab (H:Heap)(col:Nat→Nat)(tid nid pid rid:Nat)(v1 v2 v3 v4 v5:Value)(T:Tab):Prop where
 obj:H.get tid = .row true 0 1 [.map (some nid),.map (some pid),v1,v2,v3,v4,v5,.map (some rid),.int .i64 T.words]
 tc:col tid=1
 nm:H.get nid = .map (ents Nm.v T.names)
 nc:col nid=2
 pm:H.get pid = .map (ents vI T.procs)
 pc:col pid=3
 rm:H.get rid = .map (ents vI T.regions)
 rc:col rid=4
 g1:repLoc.G H (fun i=>col i=5) v1 T.locals
 g2:repInt.G H (fun i=>col i=6) v2 T.params
 g3:repCel.G H (fun i=>col i=7) v3 T.cells
 g4:repInt.G H (fun i=>col i=8) v4 T.semas
 g5:repInt.G H (fun i=>col i=9) v5 T.totals
 top:∀ i,H.n≤i→col i=0
section
variable {H H':Heap} {col:Nat→Nat} {tid nid pid rid:Nat} {v1 v2 v3 v4 v5:Value} {T:Tab}
theorem RTab.keep {X:Nat→Prop}(h:RTab H col tid nid pid rid v1 v2 v3 v4 v5 T)(k:Same X H H')(hx:∀ i,X i→col i=0):RTab H' col tid nid pid rid v1 v2 v3 v4 v5 T :=
 ⟨k.at h.obj (by simp) (fun e=>by have:=hx _ e;have:=h.tc;omega),h.tc,
  k.at h.nm (by simp) (fun e=>by have:=hx _ e;have:=h.nc;omega),h.nc,
  k.at h.pm (by simp) (fun e=>by have:=hx _ e;have:=h.pc;omega),h.pc,
  k.at h.rm (by simp) (fun e=>by have:=hx _ e;have:=h.rc;omega),h.rc,
  repLoc.G_move k (fun i hi _=>⟨hi,fun e=>by have:=hx _ e;omega⟩) h.g1,repInt.G_move k (fun i hi _=>⟨hi,fun e=>by have:=hx _ e;omega⟩) h.g2,
  repCel.G_move k (fun i hi _=>⟨hi,fun e=>by have:=hx _ e;omega⟩) h.g3,repInt.G_move k (fun i hi _=>⟨hi,fun e=>by have:=hx _ e;omega⟩) h.g4,
  repInt.G_move k (fun i hi _=>⟨hi,fun e=>by have:=hx _ e;omega⟩) h.g5,fun i hi=>h.top i (Nat.le_trans k.n hi)⟩
theorem RTab.lt (h:RTab H col tid nid pid rid v1 v2 v3 v4 v5 T):tid<H.n∧nid<H.n∧pid<H.n∧rid<H.n :=
 ⟨Heap.lt_of_get h.obj (by simp),Heap.lt_of_get h.nm (by simp),Heap.lt_of_get h.pm (by simp),Heap.lt_of_get h.rm (by simp)⟩
theorem col_app {α:Type}(ρ:Rep α){t:TypeId}(F:TF Tryz.prog t ρ.k){c:Nat}(hc:c≠0)(top:∀ i,H.n≤i→col i=0){v:Value}{l:List α}(g:ρ.G H (fun i=>col i=c) v l)(hl:l.length≤100000){a:α}{cs:List Value}(ha:ρ.R H (fun i=>col i=c∧¬vid v i) a cs) :
  ∃ b' K',∃ col':Nat→Nat,exAppend Tryz.prog [t,t] v (.slice (some ⟨H.n,0,none⟩) 1 1) (H.push (.row true 0 ρ.k cs))=some (.slice b' (l.length+1) (l.length+1),K')∧ρ.G K' (fun i=>col' i=c) (.slice b' (l.length+1) (l.length+1)) (l++[a]) ∧
   Same (fun i=>col i=c) H K'∧(∀ i,i<H.n→col' i=col i)∧(∀ i,K'.n≤i→col' i=0):=by
 have g':ρ.G H (fun i=>col i=c∨H.n≤i) v l:=ρ.G_move (Same.refl (fun _=>False) _) (fun i hi _=>⟨.inl hi,fun h=>h⟩) g
 obtain⟨v',K',e,gv,k⟩:=ρ.G_app F g' (fun i hi => .inr hi) hl (a:=a) (c:=cs) (ρ.move (Same.refl (fun _=>False) _) (fun i hi _=>⟨⟨.inl hi.1,hi.2⟩,fun h=>h⟩) _ _ ha)
 obtain⟨b',rfl⟩:=ρ.G_slice gv
 have e1:(l++[a]).length=l.length+1:=by simp
 rw[e1]at e gv
 have nk:=k.n
 refine⟨b',K',fun i=>if i<H.n then col i else if i<K'.n then c else 0,e,ρ.G_move (Same.refl (fun _=>False) _) (fun i hi hlt=>⟨?_,fun h=>h⟩) gv,k.mono fun i hi=>(ρ.G_lt g hi).2,fun i hi=>if_pos hi,fun i hi=>by show (if i<H.n then col i else if i<K'.n then c else 0)=0;rw[if_neg (by omega),if_neg (by omega)]⟩
 show (if i<H.n then col i else if i<K'.n then c else 0)=c
 by_cases h:i<H.n
 · rw[if_pos h]
   rcases hi with hi | hi
   · exact hi
   · omega
 · rw[if_neg h,if_pos hlt]
end
end Go.Vm.Scope
namespace Go.Vm.Scope
open Go Go.Proofs Go.Vm.Parse
attribute [local simp] repCells_succ writeAt rd_Fr toList_beq gpe gpn spe gse gsn ne_r0 ne_l0 le_s0 ne_r1 ne_l1 lt_s1 le_s1 ne_r2 ne_l2 lt_s2 le_s2 ne_r3 ne_l3 lt_s3 le_s3 ne_r4 ne_l4 lt_s4 le_s4 ne_r5 ne_l5 lt_s5 le_s5 ne_r6 ne_l6 lt_s6 le_s6 ne_r7 ne_l7 lt_s7 le_s7
section
variable {E:Hooks} (hE:Plain E)
include hE
theorem c_known (args:List Value)(H:Heap):(run Tryz.prog E).call 44 args H=callB Tryz.prog E Tryz.f44 args H:=call_B Tryz.func44 rfl (by decide +kernel) (hE.no _ rfl rfl) args H
theorem c_of (args:List Value)(H:Heap):(run Tryz.prog E).call 45 args H=callB Tryz.prog E Tryz.f45 args H:=call_B Tryz.func45 rfl (by decide +kernel) (hE.no _ rfl rfl) args H
theorem c_class (args:List Value)(H:Heap):(run Tryz.prog E).call 138 args H=callB Tryz.prog E Tryz.f138 args H:=call_B Tryz.func138 rfl (by decide +kernel) (hE.no _ rfl rfl) args H
theorem c_sema (args:List Value)(H:Heap):(run Tryz.prog E).call 139 args H=callB Tryz.prog E Tryz.f139 args H:=call_B Tryz.func139 rfl (by decide +kernel) (hE.no _ rfl rfl) args H
theorem c_variable (args:List Value)(H:Heap):(run Tryz.prog E).call 140 args H=callB Tryz.prog E Tryz.f140 args H:=call_B Tryz.func140 rfl (by decide +kernel) (hE.no _ rfl rfl) args H
theorem c_shared (args:List Value)(H:Heap):(run Tryz.prog E).call 141 args H=callB Tryz.prog E Tryz.f141 args H:=call_B Tryz.func141 rfl (by decide +kernel) (hE.no _ rfl rfl) args H
theorem c_sproc (args:List Value)(H:Heap):(run Tryz.prog E).call 46 args H=callB Tryz.prog E Tryz.f46 args H:=call_B Tryz.func46 rfl (by decide +kernel) (hE.no _ rfl rfl) args H
theorem c_Build (args:List Value)(H:Heap):(run Tryz.prog E).call 16 args H=callB Tryz.prog E Tryz.f16 args H:=call_B Tryz.func16 rfl (by decide +kernel) (hE.no _ rfl rfl) args H
end
def knownP (T:Tab)(x:ByteArray):Bool:=(findP x T.names).isSome || (findP x T.procs).isSome
def zN:Value := .agg ⟨[.int .i64 0,.int .i64 0,.int .i64 0]⟩
theorem look_names {H:Heap}{nid:Nat}{l:List (ByteArray × Nm)}(h:H.get nid = .map (ents Nm.v l))(x:ByteArray) :
  exLookup Tryz.prog 99 (.map (some nid)) (.string x) true H=some (.tuple #[((findP x l).map Nm.v).getD zN,.bool (findP x l).isSome]):=by
 have f:=find_ents Nm.v x l
 cases e:findP x l with
 | none=>rw[e]at f;simp only[Option.map_none]at f;simp[exLookup,keyKind,h,f,zN]
 | some b=>rw[e]at f;simp only[Option.map_some]at f;simp[exLookup,keyKind,h,f]
theorem look_ints {H:Heap}{nid:Nat}{l:List (ByteArray × Int)}(h:H.get nid = .map (ents vI l))(x:ByteArray) :
  exLookup Tryz.prog 100 (.map (some nid)) (.string x) true H=some (.tuple #[((findP x l).map vI).getD (.int .i64 0),.bool (findP x l).isSome]):=by
 have f:=find_ents vI x l
 cases e:findP x l with
 | none=>rw[e]at f;simp only[Option.map_none]at f;simp[exLookup,keyKind,h,f]
 | some b=>rw[e]at f;simp only[Option.map_some]at f;simp[exLookup,keyKind,h,f]
theorem nm_three (o:Option Nm):∃ a b c,(o.map Nm.v).getD zN = .agg ⟨[.int .i64 a,.int .i64 b,.int .i64 c]⟩:=by
 cases o with
 | none=>exact⟨0,0,0,rfl⟩
 | some x=>exact⟨x.kind,x.index,x.size,rfl⟩
theorem m_class : exMethod Tryz.prog 144 "signalbox/scope.into" = some 138 := by kernel_rfl
theorem m_sema : exMethod Tryz.prog 145 "signalbox/scope.into" = some 139 := by kernel_rfl
theorem m_shared : exMethod Tryz.prog 148 "signalbox/scope.into" = some 141 := by kernel_rfl
theorem m_variable : exMethod Tryz.prog 146 "signalbox/scope.into" = some 140 := by kernel_rfl
def kindV (k:Int):Value:=if k=1 then .iface 144 (.agg #[])else if k=2 then .iface 145 (.agg #[])else if k=3 then .iface 148 (.agg #[])else .iface 146 (.agg #[])
section
variable {E:Hooks} (hE:Plain E) {H:Heap} {col:Nat→Nat} {tid nid pid rid:Nat} {v1 v2 v3 v4 v5:Value} {T:Tab}
include hE
theorem known_run (h:RTab H col tid nid pid rid v1 v2 v3 v4 v5 T)(x:ByteArray):∃ H',(run Tryz.prog E).call 44 [.pointer (some ⟨tid,0,none⟩),.string x] H=some (.val (.bool (knownP T x)),H')∧Same (fun _=>False) H H':=by
 suffices key:Gives ((run Tryz.prog E).call 44 [.pointer (some ⟨tid,0,none⟩),.string x] H) fun o H'=>o = .val (.bool (knownP T x))∧Same (fun _=>False) H H' by
  obtain⟨o,H',e,rfl,k⟩:=key
  exact⟨H',e,k⟩
 have g0:=h.obj
 have f1:=look_names h.nm x
 have h1:=h.lt
 obtain⟨a,b,c,e1⟩:=nm_three (findP x T.names)
 rw[e1]at f1
 have h2:∀ o,(H.push o).get pid = .map (ents vI T.procs):=fun o=>by rw[Heap.get_push,if_neg (by omega)];exact h.pm
 have f2:=fun o=>look_ints (h2 o) x
 rw[c_known hE,callB,bodyOf]
 unfold knownP
 have hq:∀ p q:Bool,(if p=true then true else q)=(p || q):=by decide
 generalize (findP x T.names).isSome=p at f1 ⊢
 cases p<;>simp[Tryz.f44,g0,f1,f2,h1]<;>exact Same.push _ _ _
theorem of_run (k:Int)(H:Heap):(run Tryz.prog E).call 45 [.int .i64 k] H=some (.val (kindV k),H):=by
 suffices key:Gives ((run Tryz.prog E).call 45 [.int .i64 k] H) fun o H'=>o = .val (kindV k)∧H'=H by
  obtain⟨o,H',e,rfl,rfl⟩:=key
  exact e
 rw[c_of hE,callB,bodyOf]
 unfold kindV
 by_cases h1:k=1
 · simp[Tryz.f45,h1,ifaceA]
 · by_cases h2:k=2
   · simp[Tryz.f45,h2,ifaceA]
   · by_cases h3:k=3
     · simp[Tryz.f45,h3,ifaceA]
     · simp[Tryz.f45,h1,h2,h3,ifaceA]
end
def intoV (T:Tab)(d:Dcl):Tab:={ T with names:=T.names++[(d.name,⟨d.kind,T.cells.length,d.n⟩)],cells:=T.cells++[⟨T.words,d.n⟩],words:=T.words+max d.n 1 }
def intoP (T:Tab)(d:Dcl):Except Int Tab :=
 if d.kind=1 then
  if 6≤T.totals.length then .error 16 else if d.n<1∨1000<d.n then .error 24
  else .ok { T with names:=T.names++[(d.name,⟨d.kind,T.totals.length,0⟩)],totals:=T.totals++[d.n] }
 else if d.kind=2 then
  if 8≤T.semas.length then .error 16 else if d.n<0∨1000<d.n then .error 24
  else .ok { T with names:=T.names++[(d.name,⟨d.kind,T.semas.length,0⟩)],semas:=T.semas++[d.n] }
 else if 16≤T.cells.length then .error 16
 else if d.kind=3 then .ok { intoV T d with regions:=T.regions++[(d.name,(T.regions.length:Int))] }
 else .ok (intoV T d)
def RetInto (H:Heap)(col:Nat→Nat)(tid:Nat)(res:Except Int Tab)(o:Out)(H':Heap):Prop :=
 match res with
 | .error c=>o = .val (.int .i64 c)∧c≠0∧Same (fun _=>False) H H'
 | .ok T'=>o = .val (.int .i64 0)∧(∃ col':Nat→Nat,(∃ nid pid rid v1 v2 v3 v4 v5,RTab H' col' tid nid pid rid v1 v2 v3 v4 v5 T')∧∀ i,i<H.n→col' i=col i)∧Same (fun i=>col i≠0) H H'
section
variable {K K':Heap} {col col':Nat→Nat} {v:Value}
theorem col_other {α:Type}(ρ:Rep α){c c2:Nat}{l:List α}(h:c2≠c)(k:Same (fun i=>col i=c) K K')(hc:∀ i,i<K.n→col' i=col i)(g:ρ.G K (fun i=>col i=c2) v l):ρ.G K' (fun i=>col' i=c2) v l :=
 ρ.G_move k (fun i hi hlt=>⟨by rw[hc i hlt];exact hi,fun e=>h (hi.symm.trans e)⟩) g
theorem col_set {α:Type}(ρ:Rep α){c c2 i:Nat}{l:List α}(h:c2≠c)(hi:col i=c)(hlt:i<K.n)(g:ρ.G K (fun j=>col j=c2) v l)(o:AObj):ρ.G (K.set i o) (fun j=>col j=c2) v l :=
 ρ.G_move (Same.set (X:=fun j=>j=i) K hlt rfl o) (fun j hj _=>⟨hj,fun e=>h (by rw[← hj,e,hi])⟩) g
variable {tid nid pid rid:Nat} {v1 v2 v3 v4 v5:Value} {T:Tab}
theorem RTab.set_names (h:RTab K col tid nid pid rid v1 v2 v3 v4 v5 T)(l:List (ByteArray × Nm)):RTab (K.set nid (.map (ents Nm.v l))) col tid nid pid rid v1 v2 v3 v4 v5 { T with names:=l }:=by
 have lt:=h.lt.2.1
 have tc:=h.tc
 have nc:=h.nc
 have pc:=h.pc
 have rc:=h.rc
 have k:Same (fun i=>i=nid) K (K.set nid (.map (ents Nm.v l))):=Same.set (X:=fun i=>i=nid) K lt rfl _
 exact⟨k.at h.obj (by simp) (fun e=>by subst e;omega),tc,Heap.get_set_self _ _ lt,nc,k.at h.pm (by simp) (fun e=>by subst e;omega),pc,k.at h.rm (by simp) (fun e=>by subst e;omega),rc,
  col_set repLoc (c:=2) (by omega) nc lt h.g1 _,col_set repInt (c:=2) (by omega) nc lt h.g2 _,col_set repCel (c:=2) (by omega) nc lt h.g3 _,col_set repInt (c:=2) (by omega) nc lt h.g4 _,col_set repInt (c:=2) (by omega) nc lt h.g5 _,h.top⟩
theorem RTab.set_regions (h:RTab K col tid nid pid rid v1 v2 v3 v4 v5 T)(l:List (ByteArray × Int)):RTab (K.set rid (.map (ents vI l))) col tid nid pid rid v1 v2 v3 v4 v5 { T with regions:=l }:=by
 have lt:=h.lt.2.2.2
 have tc:=h.tc
 have nc:=h.nc
 have pc:=h.pc
 have rc:=h.rc
 have k:Same (fun i=>i=rid) K (K.set rid (.map (ents vI l))):=Same.set (X:=fun i=>i=rid) K lt rfl _
 exact⟨k.at h.obj (by simp) (fun e=>by subst e;omega),tc,k.at h.nm (by simp) (fun e=>by subst e;omega),nc,k.at h.pm (by simp) (fun e=>by subst e;omega),pc,Heap.get_set_self _ _ lt,rc,
  col_set repLoc (c:=4) (by omega) rc lt h.g1 _,col_set repInt (c:=4) (by omega) rc lt h.g2 _,col_set repCel (c:=4) (by omega) rc lt h.g3 _,col_set repInt (c:=4) (by omega) rc lt h.g4 _,col_set repInt (c:=4) (by omega) rc lt h.g5 _,h.top⟩
theorem RTab.step (h:RTab K col tid nid pid rid v1 v2 v3 v4 v5 T){c:Nat}(hc:5≤c)(k:Same (fun i=>col i=c) K K')(he:∀ i,i<K.n→col' i=col i)(ht:∀ i,K'.n≤i→col' i=0) :
  (K'.get tid = .row true 0 1 [.map (some nid),.map (some pid),v1,v2,v3,v4,v5,.map (some rid),.int .i64 T.words]∧tid<K'.n) ∧
  ∀ {w1 w2 w3 w4 w5:Value} {T':Tab} (words:Int),T'.names=T.names→T'.procs=T.procs→T'.regions=T.regions→T'.words=words →
   repLoc.G K' (fun i=>col' i=5) w1 T'.locals→repInt.G K' (fun i=>col' i=6) w2 T'.params→repCel.G K' (fun i=>col' i=7) w3 T'.cells→repInt.G K' (fun i=>col' i=8) w4 T'.semas→repInt.G K' (fun i=>col' i=9) w5 T'.totals →
   RTab (K'.set tid (.row true 0 1 [.map (some nid),.map (some pid),w1,w2,w3,w4,w5,.map (some rid),.int .i64 words])) col' tid nid pid rid w1 w2 w3 w4 w5 T':=by
 have tc:=h.tc
 have nc:=h.nc
 have pc:=h.pc
 have rc:=h.rc
 obtain⟨l1,l2,l3,l4⟩:=h.lt
 have e1:=he _ l1
 have e2:=he _ l2
 have e3:=he _ l3
 have e4:=he _ l4
 have nk:=k.n
 have o:=k.at h.obj (by simp) (by omega)
 refine⟨⟨o,by omega⟩,?_⟩
 intro w1 w2 w3 w4 w5 T' words h1 h2 h3 h4 g1 g2 g3 g4 g5
 have q:Same (fun i=>i=tid) K' (K'.set tid (.row true 0 1 [.map (some nid),.map (some pid),w1,w2,w3,w4,w5,.map (some rid),.int .i64 words])):=Same.set (X:=fun i=>i=tid) K' (by omega) rfl _
 have t1:col' tid=1:=by omega
 subst h4
 exact⟨Heap.get_set_self _ _ (by omega),t1,by rw[h1];exact q.at (k.at h.nm (by simp) (by omega)) (by simp) (fun e=>by subst e;omega),by omega,by rw[h2];exact q.at (k.at h.pm (by simp) (by omega)) (by simp) (fun e=>by subst e;omega),by omega,
  by rw[h3];exact q.at (k.at h.rm (by simp) (by omega)) (by simp) (fun e=>by subst e;omega),by omega,col_set repLoc (by omega) t1 (by omega) g1 _,col_set repInt (by omega) t1 (by omega) g2 _,col_set repCel (by omega) t1 (by omega) g3 _,col_set repInt (by omega) t1 (by omega) g4 _,col_set repInt (by omega) t1 (by omega) g5 _,ht⟩
end
theorem tf_int:TF Tryz.prog 22 1:=⟨_,_,_,by simp,by simp,by simp;rfl,by omega,by simp;rfl,rfl,by omega,rfl⟩
theorem tf_cel:TF Tryz.prog 102 2:=⟨_,_,_,by simp,by simp,by simp;rfl,by omega,by simp;rfl,rfl,by omega,rfl⟩
theorem put_names {H:Heap}{nid:Nat}{l:List (ByteArray × Nm)}(h:H.get nid = .map (ents Nm.v l)){x:ByteArray}(hx:findP x l=none)(a b c:Int) :
  exMapPut Tryz.prog 99 (.map (some nid)) (.string x) (.agg ⟨[.int .i64 a,.int .i64 b,.int .i64 c]⟩) H=some (H.set nid (.map (ents Nm.v (l++[(x,⟨a,b,c⟩)])))):=by
 have f:=put_ents Nm.v x ⟨a,b,c⟩ l hx
 simp only[Nm.v]at f
 simp[exMapPut,keyKind,h,f,Nm.v]
theorem put_ints {H:Heap}{nid:Nat}{l:List (ByteArray × Int)}(h:H.get nid = .map (ents vI l)){x:ByteArray}(hx:findP x l=none)(a:Int) :
  exMapPut Tryz.prog 100 (.map (some nid)) (.string x) (.int .i64 a) H=some (H.set nid (.map (ents vI (l++[(x,a)])))):=by
 have f:=put_ents vI x a l hx
 simp only[vI]at f
 simp[exMapPut,keyKind,h,f,vI]
theorem q_class:quiet Tryz.prog (drawN Tryz.f138 0)=true:=by decide +kernel
theorem pl_class:planOf Tryz.prog (drawN Tryz.f138 1)=some [(some (0,2)),(some (0,1)),(some (0,1)),(some (0,1)),(some (0,1)),none,none,none,none,none,none,none]:=by decide +kernel
theorem q_sema:quiet Tryz.prog (drawN Tryz.f139 0)=true:=by decide +kernel
theorem pl_sema:planOf Tryz.prog (drawN Tryz.f139 1)=some [(some (0,2)),(some (0,1)),(some (0,1)),(some (0,1)),(some (0,1)),none,none,none,none,none,none,none]:=by decide +kernel
section
variable {E:Hooks} (hE:Plain E) {H:Heap} {col:Nat→Nat} {tid nid pid rid:Nat} {v1 v2 v3 v4 v5:Value} {T:Tab}
include hE
theorem class_run (h:RTab H col tid nid pid rid v1 v2 v3 v4 v5 T)(d:Dcl)(hk:d.kind=1)(hn:findP d.name T.names=none)(hlen:T.totals.length≤100) :
  Gives ((run Tryz.prog E).call 138 [.agg #[],.pointer (some ⟨tid,0,none⟩),.agg ⟨dsc d.kind d.at_ d.name d.n⟩] H) (RetInto H col tid (intoP T d)):=by
 obtain⟨dk,da,dx,dn⟩:=d
 simp only at hk hn ⊢
 subst hk
 have hp:=(h.keep (Same.push (fun _=>False) _ (.unit 144)) (fun _ h=>h.elim)).keep (Same.push (fun _=>False) _ (.row true 0 1 (dsc 1 da dx dn))) (fun _ h=>h.elim)
 have kp:Same (fun _=>False) H ((H.push (.unit 144)).push (.row true 0 1 (dsc 1 da dx dn))):=(Same.push _ _ _).then_push _
 obtain⟨b,rfl⟩:=repInt.G_slice h.g5
 have g0:=hp.obj
 have lt:=h.lt
 rw[c_class hE,callB,bodyOf]
 unfold intoP
 rw[if_pos (show (1:Int)=1 from rfl)]
 simp only[dsc]at g0 hp kp ⊢
 by_cases c1:6≤T.totals.length
 · rw[if_pos c1]
   have c1':(6:Int)≤T.totals.length:=by omega
   simp[Tryz.f138,g0,c1,c1']
   exact⟨rfl,by omega,kp⟩
 rw[if_neg c1]
 have c1':¬(6:Int)≤T.totals.length:=by omega
 by_cases c2:dn<1∨1000<dn
 · rw[if_pos c2]
   by_cases c3:dn<1
   · simp[Tryz.f138,g0,c1,c1',c3]
     exact⟨rfl,by omega,kp⟩
   · have c4:1000<dn:=c2.resolve_left c3
     simp[Tryz.f138,g0,c1,c1',c3,c4]
     exact⟨rfl,by omega,kp⟩
 rw[if_neg c2]
 have c3:¬dn<1:=fun e=>c2 (.inl e)
 have c4:¬1000<dn:=fun e=>c2 (.inr e)
 have f1:=put_names hp.nm hn 1 T.totals.length 0
 have h2:=hp.set_names (T.names++[(dx,⟨1,T.totals.length,0⟩)])
 have g2:=h2.obj
 dsimp only at g2
 have l2:=h2.lt
 generalize hK:((H.push (.unit 144)).push (.row true 0 1 [.int .i64 1,.int .i64 da,.string dx,.int .i64 dn])).set nid (.map (ents Nm.v (T.names++[(dx,⟨1,T.totals.length,0⟩)])))=K at *
 have gd:K.get (H.n+1) = .row true 0 1 [.int .i64 1,.int .i64 da,.string dx,.int .i64 dn]:=by rw[← hK,Heap.get_set _ _ _ (by simp;omega),if_neg (by omega)];exact Heap.get_push_self _ _
 have nK:K.n=H.n+2:=by rw[← hK];rfl
 obtain⟨b',K',col',eA,gA,kA,he,ht⟩:=col_app repInt tf_int (c:=9) (l:=T.totals) (by omega) h2.top h2.g5 (by omega) (a:=dn) (cs:=[.int .i64 dn]) rfl
 have st:=h2.step (by omega) kA he ht
 have gA':=st.1.1
 dsimp only at gA'
 have tA:=st.1.2
 have fin:=st.2 (w1:=v1) (w2:=v2) (w3:=v3) (w4:=v4) (w5 := .slice b' (T.totals.length+1) (T.totals.length+1)) (T':={ T with names:=T.names++[(dx,⟨1,T.totals.length,0⟩)],totals:=T.totals++[dn] }) T.words rfl rfl rfl rfl
  (col_other repLoc (by omega) kA he h2.g1) (col_other repInt (by omega) kA he h2.g2) (col_other repCel (by omega) kA he h2.g3) (col_other repInt (by omega) kA he h2.g4) gA
 simp only[repInt]at eA
 simp[Tryz.f138,g0,c1,c1',c3,c4]
 refine region_quiet (by exact q_class) ?_
 simp[g0,f1,hK]
 refine region_plan (by exact pl_class) ?_
 have nd:H.n+1<K.n:=by omega
 simp[g2,gd,nd,l2,eA,gA',tA]
 have k1:Same (fun i=>col i≠0) H K:=by rw[← hK];exact (Same.none kp).then_set (by simp;omega) (.inl (by have:=h.nc;omega)) _
 exact⟨rfl,⟨col',⟨_,_,_,_,_,_,_,_,fin⟩,fun i hi=>he i (by omega)⟩,(k1.then kA (fun i hi => .inl (by omega))).then_set tA (.inl (by have:=h.tc;omega)) _⟩
theorem sema_run (h:RTab H col tid nid pid rid v1 v2 v3 v4 v5 T)(d:Dcl)(hk:d.kind=2)(hn:findP d.name T.names=none)(hlen:T.semas.length≤100) :
  Gives ((run Tryz.prog E).call 139 [.agg #[],.pointer (some ⟨tid,0,none⟩),.agg ⟨dsc d.kind d.at_ d.name d.n⟩] H) (RetInto H col tid (intoP T d)):=by
 obtain⟨dk,da,dx,dn⟩:=d
 simp only at hk hn ⊢
 subst hk
 have hp:=(h.keep (Same.push (fun _=>False) _ (.unit 145)) (fun _ h=>h.elim)).keep (Same.push (fun _=>False) _ (.row true 0 1 (dsc 2 da dx dn))) (fun _ h=>h.elim)
 have kp:Same (fun _=>False) H ((H.push (.unit 145)).push (.row true 0 1 (dsc 2 da dx dn))):=(Same.push _ _ _).then_push _
 obtain⟨b,rfl⟩:=repInt.G_slice h.g4
 have g0:=hp.obj
 have lt:=h.lt
 rw[c_sema hE,callB,bodyOf]
 unfold intoP
 rw[if_neg (show ¬(2:Int)=1 by omega),if_pos (show (2:Int)=2 from rfl)]
 simp only[dsc]at g0 hp kp ⊢
 by_cases c1:8≤T.semas.length
 · rw[if_pos c1]
   have c1':(8:Int)≤T.semas.length:=by omega
   simp[Tryz.f139,g0,c1,c1']
   exact⟨rfl,by omega,kp⟩
 rw[if_neg c1]
 have c1':¬(8:Int)≤T.semas.length:=by omega
 by_cases c2:dn<0∨1000<dn
 · rw[if_pos c2]
   by_cases c3:dn<0
   · simp[Tryz.f139,g0,c1,c1',c3]
     exact⟨rfl,by omega,kp⟩
   · have c4:1000<dn:=c2.resolve_left c3
     simp[Tryz.f139,g0,c1,c1',c3,c4]
     exact⟨rfl,by omega,kp⟩
 rw[if_neg c2]
 have c3:¬dn<0:=fun e=>c2 (.inl e)
 have c4:¬1000<dn:=fun e=>c2 (.inr e)
 have f1:=put_names hp.nm hn 2 T.semas.length 0
 have h2:=hp.set_names (T.names++[(dx,⟨2,T.semas.length,0⟩)])
 have g2:=h2.obj
 dsimp only at g2
 have l2:=h2.lt
 generalize hK:((H.push (.unit 145)).push (.row true 0 1 [.int .i64 2,.int .i64 da,.string dx,.int .i64 dn])).set nid (.map (ents Nm.v (T.names++[(dx,⟨2,T.semas.length,0⟩)])))=K at *
 have gd:K.get (H.n+1) = .row true 0 1 [.int .i64 2,.int .i64 da,.string dx,.int .i64 dn]:=by rw[← hK,Heap.get_set _ _ _ (by simp;omega),if_neg (by omega)];exact Heap.get_push_self _ _
 have nK:K.n=H.n+2:=by rw[← hK];rfl
 obtain⟨b',K',col',eA,gA,kA,he,ht⟩:=col_app repInt tf_int (c:=8) (l:=T.semas) (by omega) h2.top h2.g4 (by omega) (a:=dn) (cs:=[.int .i64 dn]) rfl
 have st:=h2.step (by omega) kA he ht
 have gA':=st.1.1
 dsimp only at gA'
 have tA:=st.1.2
 have fin:=st.2 (w1:=v1) (w2:=v2) (w3:=v3) (w4 := .slice b' (T.semas.length+1) (T.semas.length+1)) (w5:=v5) (T':={ T with names:=T.names++[(dx,⟨2,T.semas.length,0⟩)],semas:=T.semas++[dn] }) T.words rfl rfl rfl rfl
  (col_other repLoc (by omega) kA he h2.g1) (col_other repInt (by omega) kA he h2.g2) (col_other repCel (by omega) kA he h2.g3) gA (col_other repInt (by omega) kA he h2.g5)
 simp only[repInt]at eA
 simp[Tryz.f139,g0,c1,c1',c3,c4]
 refine region_quiet (by exact q_sema) ?_
 simp[g0,f1,hK]
 refine region_plan (by exact pl_sema) ?_
 have nd:H.n+1<K.n:=by omega
 simp[g2,gd,nd,l2,eA,gA',tA]
 have k1:Same (fun i=>col i≠0) H K:=by rw[← hK];exact (Same.none kp).then_set (by simp;omega) (.inl (by have:=h.nc;omega)) _
 exact⟨rfl,⟨col',⟨_,_,_,_,_,_,_,_,fin⟩,fun i hi=>he i (by omega)⟩,(k1.then kA (fun i hi => .inl (by omega))).then_set tA (.inl (by have:=h.tc;omega)) _⟩
end
theorem q_var0:quiet Tryz.prog (drawN Tryz.f140 0)=true:=by decide +kernel
theorem pl_var:planOf Tryz.prog (drawN Tryz.f140 1)=some [(some (0,2)),(some (0,1)),(some (0,1)),(some (0,1)),(some (0,1)),none,none,none,none,none,none,none,none,none,none,none,none]:=by decide +kernel
theorem q_var2:quiet Tryz.prog (drawN Tryz.f140 2)=true:=by decide +kernel
theorem q_sha0:quiet Tryz.prog (drawN Tryz.f141 0)=true:=by decide +kernel
theorem unit_field (i:Nat):unitF Tryz.prog 148 0 i 0 (.unit 148)=some (.pointer (some ⟨i,0,none⟩)):=by
 have h:∀ P:Program,∀ fl:Field,∀ fs:Array Field,P.underlying 148=some (.struct fs)→fs[0]? = some fl→sizeT P 148=some 0→fl.offset=0→fl.byteOffset=0→unitF P 148 0 i 0 (.unit 148)=some (.pointer (some ⟨i,0,none⟩)):=by
  intro P fl fs h1 h2 h3 h4 h5
  simp only[unitF,h1,h2,unitField,h3,h4,h5]
  rfl
 exact h Tryz.prog _ _ (by simp;rfl) rfl (by simp) rfl rfl
theorem len_ints {H:Heap}{nid:Nat}{l:List (ByteArray × Int)}(h:H.get nid = .map (ents vI l)):exLen Tryz.prog [100] (.map (some nid)) H=some (.int .i64 l.length):=by
 simp[exLen,h,len_ents]
def varP (T:Tab)(d:Dcl):Except Int Tab:=if 16≤T.cells.length then .error 16 else .ok (intoV T d)
section
variable {E:Hooks} (hE:Plain E) {H:Heap} {col:Nat→Nat} {tid nid pid rid:Nat} {v1 v2 v3 v4 v5:Value} {T:Tab}
include hE
theorem variable_run (h:RTab H col tid nid pid rid v1 v2 v3 v4 v5 T)(d:Dcl)(hn:findP d.name T.names=none)(hw1:0≤T.words)(hw2:T.words+max d.n 1≤9223372036854775807) :
  Gives ((run Tryz.prog E).call 140 [.agg #[],.pointer (some ⟨tid,0,none⟩),.agg ⟨dsc d.kind d.at_ d.name d.n⟩] H) (RetInto H col tid (varP T d)):=by
 obtain⟨dk,da,dx,dn⟩:=d
 simp only at hn hw2 ⊢
 have hp:=(h.keep (Same.push (fun _=>False) _ (.unit 146)) (fun _ h=>h.elim)).keep (Same.push (fun _=>False) _ (.row true 0 1 (dsc dk da dx dn))) (fun _ h=>h.elim)
 have kp:Same (fun _=>False) H ((H.push (.unit 146)).push (.row true 0 1 (dsc dk da dx dn))):=(Same.push _ _ _).then_push _
 obtain⟨b,rfl⟩:=repCel.G_slice h.g3
 have g0:=hp.obj
 have lt:=h.lt
 rw[c_variable hE,callB,bodyOf]
 unfold varP
 simp only[dsc]at g0 hp kp ⊢
 by_cases c1:16≤T.cells.length
 · rw[if_pos c1]
   have c1':(16:Int)≤T.cells.length:=by omega
   simp[Tryz.f140,g0,c1,c1']
   exact⟨rfl,by omega,kp⟩
 rw[if_neg c1]
 have c1':¬(16:Int)≤T.cells.length:=by omega
 have f1:=put_names hp.nm hn dk T.cells.length dn
 have h2:=hp.set_names (T.names++[(dx,⟨dk,T.cells.length,dn⟩)])
 have g2:=h2.obj
 dsimp only at g2
 have l2:=h2.lt
 generalize hK:((H.push (.unit 146)).push (.row true 0 1 [.int .i64 dk,.int .i64 da,.string dx,.int .i64 dn])).set nid (.map (ents Nm.v (T.names++[(dx,⟨dk,T.cells.length,dn⟩)])))=K at *
 have gd:K.get (H.n+1) = .row true 0 1 [.int .i64 dk,.int .i64 da,.string dx,.int .i64 dn]:=by rw[← hK,Heap.get_set _ _ _ (by simp;omega),if_neg (by omega)];exact Heap.get_push_self _ _
 have nK:K.n=H.n+2:=by rw[← hK];rfl
 obtain⟨b',K',col',eA,gA,kA,he,ht⟩:=col_app repCel tf_cel (c:=7) (l:=T.cells) (by omega) h2.top h2.g3 (by omega) (a:=⟨T.words,dn⟩) (cs:=[.int .i64 T.words,.int .i64 dn]) rfl
 have st:=h2.step (by omega) kA he ht
 have gA':=st.1.1
 dsimp only at gA'
 have tA:=st.1.2
 have h0:col (H.n+1)=0:=h.top _ (by omega)
 have gd':=kA.at gd (by simp) (by omega)
 have nA:=kA.n
 have fin:=st.2 (w1:=v1) (w2:=v2) (w3 := .slice b' (T.cells.length+1) (T.cells.length+1)) (w4:=v4) (w5:=v5) (T':=intoV T ⟨dk,da,dx,dn⟩) (T.words+max dn 1) rfl rfl rfl rfl
  (col_other repLoc (by omega) kA he h2.g1) (col_other repInt (by omega) kA he h2.g2) gA (col_other repInt (by omega) kA he h2.g4) (col_other repInt (by omega) kA he h2.g5)
 have hw:=wrap64 (T.words+max dn 1) (by omega) (by omega)
 simp only[repCel]at eA
 simp[Tryz.f140,g0,c1,c1']
 refine region_quiet (by exact q_var0) ?_
 simp[g0,f1,hK]
 refine region_plan (by exact pl_var) ?_
 have nd:H.n+1<K.n:=by omega
 have nd':H.n+1<K'.n:=by omega
 simp[g2,gd,nd,l2,eA,gA',tA]
 refine region_quiet (by exact q_var2) ?_
 simp[builtin_max,gA',tA,gd',nd',show ¬H.n+1=tid by omega,hw,Heap.set_set]
 have k1:Same (fun i=>col i≠0) H K:=by rw[← hK];exact (Same.none kp).then_set (by simp;omega) (.inl (by have:=h.nc;omega)) _
 exact⟨rfl,⟨col',⟨_,_,_,_,_,_,_,_,fin⟩,fun i hi=>he i (by omega)⟩,(k1.then kA (fun i hi => .inl (by omega))).then_set tA (.inl (by have:=h.tc;omega)) _⟩
theorem shared_run (h:RTab H col tid nid pid rid v1 v2 v3 v4 v5 T)(d:Dcl)(hn:findP d.name T.names=none)(hr:findP d.name T.regions=none)(hw1:0≤T.words)(hw2:T.words+max d.n 1≤9223372036854775807) :
  Gives ((run Tryz.prog E).call 141 [.agg #[],.pointer (some ⟨tid,0,none⟩),.agg ⟨dsc d.kind d.at_ d.name d.n⟩] H)
   (RetInto H col tid (if 16≤T.cells.length then .error 16 else .ok { intoV T d with regions:=T.regions++[(d.name,(T.regions.length:Int))] })):=by
 have hp:=(h.keep (Same.push (fun _=>False) _ (.unit 148)) (fun _ h=>h.elim)).keep (Same.push (fun _=>False) _ (.row true 0 1 (dsc d.kind d.at_ d.name d.n))) (fun _ h=>h.elim)
 have kp:Same (fun _=>False) H ((H.push (.unit 148)).push (.row true 0 1 (dsc d.kind d.at_ d.name d.n))):=(Same.push _ _ _).then_push _
 obtain⟨o,K,e,hR⟩:=variable_run hE hp d hn hw1 hw2
 rw[c_shared hE,callB,bodyOf]
 unfold varP at hR
 have lt:=h.lt
 by_cases c1:16≤T.cells.length
 · rw[if_pos c1]at hR ⊢
   obtain⟨rfl,_,k⟩:=hR
   simp only[dsc]at e kp k
   simp[Tryz.f141,dsc,unit_field,e]
   exact⟨rfl,by omega,kp.trans k⟩
 · rw[if_neg c1]at hR ⊢
   obtain⟨rfl,⟨col',⟨nid',pid',rid',w1,w2,w3,w4,w5,hT⟩,he⟩,k⟩:=hR
   have h0:col (H.n+1)=0:=h.top _ (by omega)
   have gd:K.get (H.n+1) = .row true 0 1 (dsc d.kind d.at_ d.name d.n):=k.at (Heap.get_push_self _ _) (by simp) (fun x=>x h0)
   have g0:=hT.obj
   have lt':=hT.lt
   have f:=put_ints hT.rm (x:=d.name) hr T.regions.length
   have h3:=hT.set_regions (T.regions++[(d.name,(T.regions.length:Int))])
   have grm:=hT.rm
   have hl:=len_ints (l:=T.regions) grm
   have nk:=k.n
   simp at nk
   have ndd:H.n+1<K.n:=by omega
   have hreg:(intoV T d).regions=T.regions:=rfl
   simp only[hreg]at grm f
   simp only[dsc]at e gd kp k
   simp[Tryz.f141,dsc,unit_field,e]
   refine region_quiet (by exact q_sha0) ?_
   simp[g0,gd,hl,f,lt',ndd]
   have rc':=hT.rc
   refine⟨rfl,⟨col',⟨_,_,_,_,_,_,_,_,h3⟩,fun i hi=>he i (by simp;omega)⟩,?_⟩
   refine ((Same.none kp).trans k).then_set (by omega) ?_ _
   by_cases hlt:rid'<H.n
   · have:=he rid' (by simp;omega)
     exact .inl (by omega)
   · exact .inr (by omega)
theorem into_run (h:RTab H col tid nid pid rid v1 v2 v3 v4 v5 T)(d:Dcl)(hn:findP d.name T.names=none)(hr:findP d.name T.regions=none)(hw1:0≤T.words)(hw2:d.kind≠1→d.kind≠2→T.words+max d.n 1≤9223372036854775807)(hl1:T.totals.length≤100)(hl2:T.semas.length≤100) :
  Gives (callI Tryz.prog (run Tryz.prog E).call (some (kindV d.kind)) "signalbox/scope.into" [.pointer (some ⟨tid, 0, none⟩), .agg ⟨dsc d.kind d.at_ d.name d.n⟩] H) (RetInto H col tid (intoP T d)) := by
 by_cases h1:d.kind=1
 · rw[show kindV d.kind = .iface 144 (.agg #[]) by unfold kindV;rw[if_pos h1]]
   simp only[callI,m_class]
   exact class_run hE h d h1 hn hl1
 · by_cases h2:d.kind=2
   · rw[show kindV d.kind = .iface 145 (.agg #[]) by unfold kindV;rw[if_neg h1,if_pos h2]]
     simp only[callI,m_sema]
     exact sema_run hE h d h2 hn hl2
   · by_cases h3:d.kind=3
     · rw[show kindV d.kind = .iface 148 (.agg #[]) by unfold kindV;rw[if_neg h1,if_neg h2,if_pos h3]]
       simp only[callI,m_shared]
       have:=shared_run hE h d hn hr hw1 (hw2 h1 h2)
       unfold intoP
       rw[if_neg h1,if_neg h2,if_pos h3]
       exact this
     · rw[show kindV d.kind = .iface 146 (.agg #[]) by unfold kindV;rw[if_neg h1,if_neg h2,if_neg h3]]
       simp only[callI,m_variable]
       have:=variable_run hE h d hn hw1 (hw2 h1 h2)
       unfold intoP
       rw[if_neg h1,if_neg h2,if_neg h3]
       exact this
end
end Go.Vm.Scope
namespace Go.Vm
theorem Rep.L_get {α:Type}(ρ:Rep α){H:Heap}{S:Nat→Prop}:∀ {l:List α}{cs:List Value}(k:Nat)(hk:k<l.length),ρ.L H S l cs→ρ.R H S l[k] ((cs.drop (k * ρ.k)).take ρ.k)
 | [],_,k,hk,_=>absurd hk (Nat.not_lt_zero _)
 | a :: l, cs, 0, hk, h => by
  obtain⟨c1,c2,rfl,h1,h2⟩:=h
  have hl:=ρ.len h1
  simp only[Nat.zero_mul,List.drop_zero,List.getElem_cons_zero]
  rw[← hl,List.take_left']
  · exact h1
  · rfl
 | a :: l, cs, k + 1, hk, h => by
  obtain⟨c1,c2,rfl,h1,h2⟩:=h
  have hl:=ρ.len h1
  have e:(k+1) * ρ.k=c1.length+k * ρ.k:=by rw[hl,Nat.add_mul];omega
  rw[List.getElem_cons_succ,e,List.drop_append,List.drop_eq_nil_of_le (by omega),List.nil_append,show c1.length+k * ρ.k - c1.length=k * ρ.k by omega]
  exact Rep.L_get ρ k (by simpa using hk) h2
end Go.Vm
namespace Go.Vm.Scope
open Go Go.Proofs Go.Vm.Parse
def declsB (T:Tab):List Dcl→Except (Int × Int) Tab
 | [] => .ok T
 | d :: l => if knownP T d.name = true then .error (17, d.at_) else match intoP T d with
  | .error c => .error (c,d.at_)
  | .ok T'=>declsB T' l
def procsB (one:Tab→Prc→Except (Int × Int) Tab)(T:Tab):List Prc→Except (Int × Int) Tab
 | [] => .ok T
 | p :: l => match one T p with
  | .error c => .error c
  | .ok T'=>procsB one T' l
def tab0:Tab:=⟨[],[],[[]],[0],[],[],[],[],0⟩
def buildP (one:Tab→Prc→Except (Int × Int) Tab)(s:Src):Except (Int × Int) Tab :=
 match declsB tab0 s.decls with
 | .error c => .error c
 | .ok T=>procsB one T s.procs
structure TOK (T:Tab):Prop where
 t:T.totals.length≤6
 s:T.semas.length≤8
 c:T.cells.length≤16
 w0:0≤T.words
 w1:T.words≤T.cells.length * 1099511627776
 r:∀ x,findP x T.names=none→findP x T.regions=none
 q:T.procs.length≤12
 l:T.locals.length=T.procs.length+1
 p:T.params.length=T.procs.length+1
theorem tab0_ok:TOK tab0:=⟨by simp[tab0],by simp[tab0],by simp[tab0],by simp[tab0],by simp[tab0],fun x _=>rfl,by simp[tab0],by simp[tab0],by simp[tab0]⟩
theorem find_snoc {β:Type}(x y:ByteArray)(b:β):∀ l:List (ByteArray × β),findP x (l++[(y,b)])=none↔findP x l=none∧¬y=x
 | []=>by simp[findP]
 | e :: l => by
  simp only[List.cons_append,findP]
  by_cases h:e.1=x
  · simp[h]
  · simp only[if_neg h];exact find_snoc x y b l
theorem known_no {T:Tab}{x:ByteArray}(h:knownP T x=false):findP x T.names=none∧findP x T.procs=none:=by
 unfold knownP at h
 simp only[Bool.or_eq_false_iff,Option.isSome_eq_false_iff,Option.isNone_iff_eq_none]at h
 exact h
theorem TOK.into {T T':Tab}{d:Dcl}(h:TOK T)(hd:d.kind≠1→d.kind≠2→d.n≤1099511627776)(e:intoP T d = .ok T'):TOK T':=by
 obtain⟨h1,h2,h3,h4,h5,h6,h7,h8,h9⟩:=h
 have hv:d.kind≠1→d.kind≠2→¬16≤T.cells.length→TOK (intoV T d):=fun k1 k2 hc=>have hm:max d.n 1≤1099511627776∧1≤max d.n 1:=by have:=hd k1 k2;omega
  ⟨h1,h2,by simp[intoV];omega,by simp only[intoV];omega,by simp only[intoV,List.length_append,List.length_cons,List.length_nil];omega,fun x hx=>h6 x ((find_snoc _ _ _ _).1 hx).1,h7,h8,h9⟩
 unfold intoP at e
 split at e
 · split at e
   · cases e
   · split at e
     · cases e
     · cases e
       exact⟨by simp;omega,h2,h3,h4,h5,fun x hx=>h6 x ((find_snoc _ _ _ _).1 hx).1,h7,h8,h9⟩
 · split at e
   · split at e
     · cases e
     · split at e
       · cases e
       · cases e
         exact⟨h1,by simp;omega,h3,h4,h5,fun x hx=>h6 x ((find_snoc _ _ _ _).1 hx).1,h7,h8,h9⟩
   · rename_i k1 k2
     split at e
     · cases e
     · rename_i hc
       split at e
       · cases e
         obtain⟨a1,a2,a3,a4,a5,a6,a7,a8,a9⟩:=hv k1 k2 hc
         exact⟨a1,a2,a3,a4,a5,fun x hx=>(find_snoc _ _ _ _).2 ⟨a6 x hx,((find_snoc _ _ _ _).1 hx).2⟩,a7,a8,a9⟩
       · cases e;exact hv k1 k2 hc
end Go.Vm.Scope
namespace Go.Vm.Scope
open Go Go.Proofs Go.Vm.Parse
attribute [local simp] repCells_succ writeAt rd_Fr toList_beq gpe gpn spe gse gsn ne_r0 ne_l0 le_s0 ne_r1 ne_l1 lt_s1 le_s1 ne_r2 ne_l2 lt_s2 le_s2 ne_r3 ne_l3 lt_s3 le_s3 ne_r4 ne_l4 lt_s4 le_s4 ne_r5 ne_l5 lt_s5 le_s5 ne_r6 ne_l6 lt_s6 le_s6 ne_r7 ne_l7 lt_s7 le_s7
theorem q_bld0:quiet Tryz.prog (drawN Tryz.f16 0)=true:=by decide +kernel
theorem pl_bld1:planOf Tryz.prog (drawN Tryz.f16 1)=some [none,none,none,(some (0,1)),(some (0,1)),none,none]:=by decide +kernel
theorem q_bld2:quiet Tryz.prog (drawN Tryz.f16 2)=true:=by decide +kernel
theorem q_bld3:quiet Tryz.prog (drawN Tryz.f16 3)=true:=by decide +kernel
def TProcOK (E:Hooks)(one:Tab→Prc→Except (Int × Int) Tab):Prop:=∀ (T:Tab) (p:Prc) (col:Nat→Nat) (tid nid pid rid:Nat) (v1 v2 v3 v4 v5:Value) (cs:List Value) (K:Heap),RTab K col tid nid pid rid v1 v2 v3 v4 v5 T→TOK T→p.params.length+p.vars.length≤100000→repPrc.R K (fun i=>col i=0) p cs →
 Gives ((run Tryz.prog E).call 46 [.pointer (some ⟨tid,0,none⟩),.agg ⟨cs⟩] K) fun o K'=>Same (fun i=>col i≠0) K K'∧match one T p with
  | .error (c,a)=>o = .val (.agg ⟨[.int .i64 c,.int .i64 a]⟩)∧c≠0
  | .ok T'=>o = .val (.agg ⟨[.int .i64 0,.int .i64 0]⟩)∧TOK T'∧∃ col':Nat→Nat,(∃ nid pid rid v1 v2 v3 v4 v5,RTab K' col' tid nid pid rid v1 v2 v3 v4 v5 T')∧∀ i,i<K.n→col' i=col i
def RetB (H:Heap)(res:Except (Int × Int) Tab)(o:Out)(H':Heap):Prop :=
 Same (fun _=>False) H H'∧match res with
 | .error (c,a)=>o = .val (.tuple #[.pointer none,.agg ⟨[.int .i64 c,.int .i64 a]⟩])
 | .ok T=>∃ (col:Nat→Nat) (tid nid pid rid:Nat) (v1 v2 v3 v4 v5:Value),o = .val (.tuple #[.pointer (some ⟨tid,0,none⟩),.agg ⟨[.int .i64 0,.int .i64 0]⟩])∧RTab H' col tid nid pid rid v1 v2 v3 v4 v5 T∧(∀ i,i<H.n→col i=0)
structure BAt (H K:Heap)(sc:List Value)(col:Nat→Nat)(T:Tab):Prop where
 same:Same (fun _=>False) H K
 box:K.get H.n = .row true 0 1 sc
 res:K.get (H.n+1) = .row true 0 1 [.int .i64 0,.int .i64 0]
 tab:∃ nid pid rid v1 v2 v3 v4 v5,RTab K col (H.n+7) nid pid rid v1 v2 v3 v4 v5 T
 zero:∀ i,i≤H.n+1→col i=0
 ok:TOK T
theorem BAt.keep {H K K':Heap}{sc:List Value}{col:Nat→Nat}{T:Tab}{X:Nat→Prop}(h:BAt H K sc col T)(k:Same X K K')(hx:∀ i,X i→col i=0∧H.n+1<i):BAt H K' sc col T:=by
 obtain⟨nid,pid,rid,v1,v2,v3,v4,v5,ht⟩:=h.tab
 exact⟨h.same.then k (fun i hi => .inr (by have:=(hx i hi).2;omega)),k.at h.box (by simp) (fun e=>by have:=(hx _ e).2;omega),k.at h.res (by simp) (fun e=>by have:=(hx _ e).2;omega),⟨_,_,_,_,_,_,_,_,ht.keep k (fun i hi=>(hx i hi).1)⟩,h.zero,h.ok⟩
def DeclI (H:Heap)(sc:List Value)(ds:List Dcl)(res:Except (Int × Int) Tab)(m:Nat)(t:List Value)(K:Heap):Prop :=
 ∃ k T col,k≤ds.length∧m=ds.length - k∧rd t 21 = .int .i64 k∧declsB T (ds.drop k)=res∧BAt H K sc col T
def DeclJ (H:Heap)(sc:List Value)(res:Except (Int × Int) Tab)(t:List Value)(K:Heap):Prop :=
 ∃ T col,res = .ok T∧BAt H K sc col T∧t.length=62∧rd t 1 = .pointer (some ⟨H.n,0,none⟩)∧rd t 3 = .pointer (some ⟨H.n+1,0,none⟩)∧rd t 4 = .pointer (some ⟨H.n+7,0,none⟩)
def ProcI (one:Tab→Prc→Except (Int × Int) Tab)(H:Heap)(sc:List Value)(ps:List Prc)(res:Except (Int × Int) Tab)(m:Nat)(t:List Value)(K:Heap):Prop :=
 ∃ k T col,k≤ps.length∧m=ps.length - k∧rd t 48 = .int .i64 k∧procsB one T (ps.drop k)=res∧BAt H K sc col T
theorem prc_slices {H:Heap}{S:Nat→Prop}{p:Prc}{cs:List Value}(h:RPrc H S p cs):∃ a x a1 a2 a3 b1 b2 b3 c1 c2 c3,cs=pc5 a x (.slice a1 a2 a3) (.slice b1 b2 b3) (.slice c1 c2 c3):=by
 obtain⟨v1,v2,v3,rfl,h1,h2,h3⟩:=h
 obtain⟨b1,rfl⟩:=repIdn.G_slice h1
 obtain⟨b2,rfl⟩:=repIdn.G_slice h2
 obtain⟨b3,rfl⟩:=repStm.G_slice h3
 exact⟨_,_,_,_,_,_,_,_,_,_,_,rfl⟩
section
variable {E:Hooks} (hE:Plain E)
include hE
theorem build_run {one:Tab→Prc→Except (Int × Int) Tab}{H:Heap}{s:Src}{sc:List Value}(hP:s.procs=[]∨TProcOK E one)(hs:RSrc H (fun i=>i<H.n) s sc)(hn:∀ d∈s.decls,d.kind≠1→d.kind≠2→d.n≤1099511627776)(hq:∀ p∈s.procs,p.params.length+p.vars.length≤100000)(hl:s.decls.length≤100000)(hl2:s.procs.length≤100000) :
  Gives ((run Tryz.prog E).call 16 [.agg ⟨sc⟩] H) (RetB H (buildP one s)):=by
 obtain⟨w1,w2,w3,w4,rfl,hd,hp,hi,hb⟩:=hs
 obtain⟨b1,rfl⟩:=repDcl.G_slice hd
 obtain⟨b2,rfl⟩:=repPrc.G_slice hp
 obtain⟨b3,rfl⟩:=repItm.G_slice hi
 obtain⟨b4,rfl⟩:=repStm.G_slice hb
 rw[c_Build hE,callB,bodyOf]
 simp[Tryz.f16,sr5]
 refine loop_mid2 (DeclJ H (sr5 s.name (.slice b1 s.decls.length s.decls.length) (.slice b2 s.procs.length s.procs.length) (.slice b3 s.claims.length s.claims.length) (.slice b4 s.body.length s.body.length)) (declsB tab0 s.decls))
  (DeclI H (sr5 s.name (.slice b1 s.decls.length s.decls.length) (.slice b2 s.procs.length s.procs.length) (.slice b3 s.claims.length s.claims.length) (.slice b4 s.body.length s.body.length)) s.decls (declsB tab0 s.decls)) s.decls.length ?_ ?_ ?_
 · refine⟨0,tab0,fun i=>if i=H.n+7 then 1 else if i=H.n+2 then 2 else if i=H.n+3 then 3 else if i=H.n+4 then 4 else if i=H.n+5 then 5 else if i=H.n+6 then 6 else 0,Nat.zero_le _,by simp,by simp,by simp,?_⟩
   refine⟨?_,by simp[sr5,Heap.get_push],by simp[Heap.get_push],⟨H.n+1+1,H.n+1+1+1,H.n+1+1+1+1,.slice (some ⟨H.n+1+1+1+1+1,0,none⟩) 1 1,.slice (some ⟨H.n+1+1+1+1+1+1,0,none⟩) 1 1,nl,nl,nl,?_⟩,fun i hi=>by rw[if_neg (by omega),if_neg (by omega),if_neg (by omega),if_neg (by omega),if_neg (by omega),if_neg (by omega)],tab0_ok⟩
   · exact (((((((Same.push _ _ _).then_push _).then_push _).then_push _).then_push _).then_push _).then_push _).then_push _
   · exact⟨by simp[Heap.get_push,tab0],by simp,by simp[Heap.get_push,tab0,ents],by simp,by simp[Heap.get_push,tab0,ents],by simp,by simp[Heap.get_push,tab0,ents],by simp,
      .inr ⟨H.n+1+1+1+1+1,0,[.map none],rfl,by omega,by simp,by simp[Heap.get_push,repLoc],[.map none],[],rfl,.inl ⟨rfl,rfl⟩,rfl⟩,
      .inr ⟨H.n+1+1+1+1+1+1,0,[.int .i64 0],rfl,by omega,by simp,by simp[Heap.get_push,repInt],[.int .i64 0],[],rfl,rfl,rfl⟩,
      repCel.G_nil _ _,repInt.G_nil _ _,repInt.G_nil _ _,fun i hi=>by simp at hi;rw[if_neg (by omega),if_neg (by omega),if_neg (by omega),if_neg (by omega),if_neg (by omega),if_neg (by omega)]⟩
 · rintro m t K hk ⟨k,T,col,hkl,rfl,g21,hres,hB⟩
   have ht:t.length=62:=hk.1.trans (by simp[len_Bs])
   have hh:=hk.all [1,3,4,19,20] (by decide +kernel)
   simp at hh
   obtain⟨u1,u3,u4,u19,u20⟩:=hh
   have g0:=hB.box
   have gr:=hB.res
   obtain⟨nid,pid,rid,x1,x2,x3,x4,x5,hT⟩:=hB.tab
   have nK:=hB.same.n
   have trK:H.n+1<K.n:=Heap.lt_of_get gr (by simp)
   rcases Nat.lt_or_ge k s.decls.length with hlt | hge
   · have hb1:∃ id tl cs,b1=some ⟨id,0,none⟩∧id<H.n∧H.get id = .row true tl 4 cs∧cs.length=s.decls.length * 4∧(cs.drop (k * 4)).take 4=dsc s.decls[k].kind s.decls[k].at_ s.decls[k].name s.decls[k].n:=by
      rcases hd with⟨e1,e2⟩ | ⟨id,tl,cs,e1,_,e3,e4,e5⟩
      · rw[e2]at hlt;cases hlt
      · cases e1
        exact⟨id,tl,cs,rfl,e3,e4,repDcl.L_len e5,repDcl.L_get k hlt e5⟩
     obtain⟨id,tl,cs,rfl,hid,hrow,hcl,hget⟩:=hb1
     have hrK:=hB.same.at hrow (by simp) (fun h=>h)
     have hkl':(k:Int)<s.decls.length:=by omega
     have hdrop:s.decls.drop k=s.decls[k] :: s.decls.drop (k+1):=List.drop_eq_getElem_cons hlt
     have hdn:=hn s.decls[k] (List.getElem_mem hlt)
     generalize hdk:s.decls[k]=d at *
     rw[hdrop,declsB]at hres
     have hB1:=hB.keep (Same.push (fun _=>False) K (.row true 0 1 (dsc d.kind d.at_ d.name d.n))) (fun _ h=>h.elim)
     obtain⟨nid,pid,rid,x1,x2,x3,x4,x5,hT1⟩:=hB1.tab
     obtain⟨K2,e2,k2⟩:=known_run hE hT1 d.name
     have hB2:=hB1.keep k2 (fun _ h=>h.elim)
     have gd2:K2.get K.n = .row true 0 1 (dsc d.kind d.at_ d.name d.n):=k2.at (Heap.get_push_self _ _) (by simp) (fun h=>h)
     have n2:=k2.n
     simp at n2
     have g02:=hB2.box
     have gr2:=hB2.res
     have tr2:H.n+1<K2.n:=by omega
     have td2:K.n<K2.n:=by omega
     simp only[dsc]at hget e2 gd2
     by_cases hkn:knownP T d.name=true
     · rw[if_pos hkn]at hres
       unfold buildP
       rw[← hres]
       simp[ht,u1,u3,u4,u19,u20,g21,hlt,hkl',hrK,hcl,hget,show k * 4+4≤s.decls.length * 4 by omega,e2,hkn]
       refine region_quiet (by exact q_bld0) ?_
       simp[ht,u1,u3,u4,gd2,gr2,tr2]
       exact⟨hB2.same.then_set (by omega) (.inr (by omega)) _,rfl⟩
     · rw[if_neg hkn]at hres
       have hkn':knownP T d.name=false:=by simpa using hkn
       obtain⟨q1,q2⟩:=known_no hkn'
       obtain⟨nid2,pid2,rid2,z1,z2,z3,z4,z5,hT2⟩:=hB2.tab
       have ok:=hB2.ok
       have eo:=of_run hE d.kind K2
       obtain⟨o,K3,e3,hR⟩:=into_run hE hT2 d q1 (ok.r _ q1) ok.w0 (fun u1 u2=>by have:=ok.w1;have:=ok.c;have:=hdn u1 u2;omega) (by have:=ok.t;omega) (by have:=ok.s;omega)
       simp only[dsc]at e3
       simp[ht,u1,u3,u4,u19,u20,g21,hlt,hkl',hrK,hcl,hget,show k * 4+4≤s.decls.length * 4 by omega,e2,hkn']
       refine region_plan (by exact pl_bld1) ?_
       cases hinto:intoP T d with
       | error c =>
        rw[hinto]at hR hres
        obtain⟨rfl,hc0,k3⟩:=hR
        have hB3:=hB2.keep k3 (fun _ h=>h.elim)
        have gd3:=k3.at gd2 (by simp) (fun h=>h)
        have gr3:=hB3.res
        have n3:=k3.n
        have tr3:H.n+1<K3.n:=by omega
        unfold buildP
        rw[← hres]
        simp[ht,u1,u3,u4,gd2,td2,eo,e3,hc0]
        refine region_quiet (by exact q_bld2) ?_
        simp[ht,u1,u3,u4,gd3,gr3,tr3]
        exact⟨hB3.same.then_set (by omega) (.inr (by omega)) _,rfl⟩
       | ok T' =>
        rw[hinto]at hR hres
        obtain⟨rfl,⟨col',hT',he⟩,k3⟩:=hR
        have z2:=hB2.zero
        have hB3:BAt H K3 (sr5 s.name (.slice (some ⟨id,0,none⟩) s.decls.length s.decls.length) (.slice b2 s.procs.length s.procs.length) (.slice b3 s.claims.length s.claims.length) (.slice b4 s.body.length s.body.length)) col' T' :=
         ⟨hB2.same.then k3 (fun i hi => .inr (by rcases Nat.lt_or_ge i H.n with h | h;exact absurd (z2 i (by omega)) hi;exact h)),k3.at g02 (by simp) (fun h=>h (z2 _ (by omega))),k3.at gr2 (by simp) (fun h=>h (z2 _ (by omega))),hT',fun i hi=>by rw[he i (by omega)];exact z2 i hi,ok.into hdn hinto⟩
        have hw:=wrap64 ((k:Int)+1) (by omega) (by omega)
        simp[ht,u1,u3,u4,g21,gd2,td2,eo,e3,hw]
        exact⟨s.decls.length - (k+1),by omega,k+1,T',col',by omega,rfl,by simp[ht],hres,hB3⟩
   · have hke:k=s.decls.length:=by omega
     subst hke
     rw[List.drop_length,declsB]at hres
     simp[ht,u1,u3,u4,u19,u20,g21]
     exact⟨T,col,hres.symm,hB,by simp[ht],by simp[ht,u1],by simp[ht,u3],by simp[ht,u4]⟩
 · rintro t K hk ⟨T0,col0,hT0,hB0,ht,u1,u3,u4⟩
   have g0:=hB0.box
   simp only[sr5]at g0
   unfold buildP
   rw[hT0]
   simp only[]
   simp[ht,u1,u3,u4,g0]
   refine loop_wp (ProcI one H (sr5 s.name (.slice b1 s.decls.length s.decls.length) (.slice b2 s.procs.length s.procs.length) (.slice b3 s.claims.length s.claims.length) (.slice b4 s.body.length s.body.length)) s.procs (procsB one T0 s.procs)) s.procs.length ?_ ?_
   · exact⟨0,T0,col0,Nat.zero_le _,by simp,by simp[ht],by simp,hB0⟩
   rintro m t' K hk ⟨k,T,col,hkl,rfl,g48,hres,hB⟩
   have ht':t'.length=62:=hk.1.trans (by simp[ht])
   have hh:=hk.all [1,3,4,46,47] (by decide +kernel)
   simp[ht,u1,u3,u4]at hh
   obtain⟨y1,y3,y4,y46,y47⟩:=hh
   have gr:=hB.res
   have nK:=hB.same.n
   have trK:H.n+1<K.n:=Heap.lt_of_get gr (by simp)
   have z:=hB.zero
   rcases Nat.lt_or_ge k s.procs.length with hlt | hge
   · have hP:=hP.resolve_left (fun e=>by rw[e]at hlt;cases hlt)
     have hb2:∃ id tl cs,b2=some ⟨id,0,none⟩∧id<H.n∧H.get id = .row true tl 5 cs∧cs.length=s.procs.length * 5∧RPrc H (fun i=>i<H.n∧i≠id) s.procs[k] ((cs.drop (k * 5)).take 5):=by
      rcases hp with⟨e1,e2⟩ | ⟨id,tl,cs,e1,_,e3,e4,e5⟩
      · rw[e2]at hlt;cases hlt
      · cases e1
        exact⟨id,tl,cs,rfl,e3,e4,repPrc.L_len e5,repPrc.L_get k hlt e5⟩
     obtain⟨id,tl,cs,rfl,hid,hrow,hcl,hget⟩:=hb2
     have hrK:=hB.same.at hrow (by simp) (fun h=>h)
     have hkl':(k:Int)<s.procs.length:=by omega
     have hdrop:s.procs.drop k=s.procs[k] :: s.procs.drop (k+1):=List.drop_eq_getElem_cons hlt
     have hpq:=hq s.procs[k] (List.getElem_mem hlt)
     generalize hdk:s.procs[k]=p at *
     rw[hdrop,procsB]at hres
     obtain⟨p1,p2,p3,p4,p5,p6,p7,p8,p9,p10,p11,hc⟩:=prc_slices hget
     rw[hc]at hget
     have hB1:=hB.keep (Same.push (fun _=>False) K (.row true 0 1 (pc5 p1 p2 (.slice p3 p4 p5) (.slice p6 p7 p8) (.slice p9 p10 p11)))) (fun _ h=>h.elim)
     obtain⟨nid,pid,rid,x1,x2,x3,x4,x5,hT1⟩:=hB1.tab
     have hget1:repPrc.R (K.push (.row true 0 1 (pc5 p1 p2 (.slice p3 p4 p5) (.slice p6 p7 p8) (.slice p9 p10 p11)))) (fun i=>col i=0) p (pc5 p1 p2 (.slice p3 p4 p5) (.slice p6 p7 p8) (.slice p9 p10 p11)) :=
      repPrc.move (hB.same.then_push _) (fun i hi _=>⟨z i (by omega),fun h=>h⟩) _ _ hget
     obtain⟨o,K2,e2,k2,hR⟩:=hP T p col (H.n+7) nid pid rid x1 x2 x3 x4 x5 _ _ hT1 hB1.ok hpq hget1
     have n2:=k2.n
     simp at n2
     have g02:=k2.at hB1.box (by simp) (fun h=>h (z _ (by omega)))
     have gr2:=k2.at hB1.res (by simp) (fun h=>h (z _ (by omega)))
     have s2:Same (fun _=>False) H K2:=hB1.same.then k2 (fun i hi => .inr (by rcases Nat.lt_or_ge i H.n with h | h;exact absurd (z i (by omega)) hi;exact h))
     have tr2:H.n+1<K2.n:=by omega
     simp only[pc5]at hc e2
     cases hone:one T p with
     | error q =>
      obtain⟨c,a⟩:=q
      rw[hone]at hR hres
      obtain⟨rfl,hc0⟩:=hR
      simp only at hres
      rw[← hres]
      simp[ht',y1,y3,y4,y46,y47,g48,hlt,hkl',hrK,hcl,hc,show k * 5+5≤s.procs.length * 5 by omega,e2,hc0]
      refine region_quiet (by exact q_bld3) ?_
      simp[ht',y1,y3,y4,gr2,tr2]
      exact⟨(s2.then_push _).then_set (by simp;omega) (.inr (by omega)) _,rfl⟩
     | ok T' =>
      rw[hone]at hR hres
      obtain⟨rfl,hok,col',hT',he⟩:=hR
      have hw:=wrap64 ((k:Int)+1) (by omega) (by omega)
      have hB3:BAt H (K2.push (.row true 0 1 [.int .i64 0,.int .i64 0])) (sr5 s.name (.slice b1 s.decls.length s.decls.length) (.slice (some ⟨id,0,none⟩) s.procs.length s.procs.length) (.slice b3 s.claims.length s.claims.length) (.slice b4 s.body.length s.body.length)) col' T' :=
       BAt.keep ⟨s2,g02,gr2,hT',fun i hi=>by rw[he i (by simp;omega)];exact z i hi,hok⟩ (Same.push (fun _=>False) _ _) (fun _ h=>h.elim)
      simp[ht',y1,y3,y4,y46,y47,g48,hlt,hkl',hrK,hcl,hc,show k * 5+5≤s.procs.length * 5 by omega,e2,hw]
      exact⟨s.procs.length - (k+1),by omega,k+1,T',col',by omega,rfl,by simp[ht'],hres,hB3⟩
   · have hke:k=s.procs.length:=by omega
     subst hke
     rw[List.drop_length,procsB]at hres
     rw[← hres]
     simp[ht',y1,y3,y4,y46,y47,g48,gr,trK]
     obtain⟨nid,pid,rid,x1,x2,x3,x4,x5,hT1⟩:=hB.tab
     exact⟨hB.same.then_set trK (.inr (by omega)) _,col,H.n+7,_,_,_,_,_,_,_,_,rfl,hT1.keep (Same.set (X:=fun i=>i=H.n+1) K trK rfl _) (fun i hi=>by subst hi;exact z _ (by omega)),fun i hi=>z i (by omega)⟩
end
end Go.Vm.Scope
namespace Go.Vm
variable {α:Type}
theorem Rep.L_append (ρ:Rep α){H:Heap}{S:Nat→Prop}:∀ {l m:List α}{cs ds:List Value},ρ.L H S l cs→ρ.L H S m ds→ρ.L H S (l++m) (cs++ds)
 | [],m,cs,ds,h,k=>by simp only[Rep.L]at h;subst h;exact k
 | a :: l, m, cs, ds, h, k => by
  obtain⟨c1,c2,rfl,h1,h2⟩:=h
  exact⟨c1,c2++ds,by simp,h1,Rep.L_append ρ h2 k⟩
theorem Rep.L_weak (ρ:Rep α){H:Heap}{S S':Nat→Prop}(h:∀ i,S i→S' i){l:List α}{cs:List Value}(k:ρ.L H S l cs):ρ.L H S' l cs :=
 ρ.L_move (Same.refl (fun _=>False) H) (fun i hi _=>⟨h i hi,fun h=>h⟩) k
theorem Rep.G_cells (ρ:Rep α){H:Heap}{S:Nat→Prop}{v:Value}{l:List α}(h:ρ.G H S v l):∃ cs,ρ.L H S l cs∧cellsOf H ρ.k l.length v=some cs∧∃ b,v = .slice b l.length l.length:=by
 rcases h with⟨rfl,rfl⟩ | ⟨id,tl,cs,rfl,h2,h3,h4,h5⟩
 · exact⟨[],rfl,by simp,none,rfl⟩
 · have hl:=ρ.L_len h5
   refine⟨cs,ρ.L_weak (fun i hi=>hi.1) h5,?_,_,rfl⟩
   simp[h4,hl]
   rw[← hl,List.take_length]
theorem Rep.G_some (ρ:Rep α){H:Heap}{S:Nat→Prop}{v:Value}{l:List α}(h:ρ.G H S v l)(hl:0<l.length):∃ id,v = .slice (some ⟨id,0,none⟩) l.length l.length∧S id∧id<H.n:=by
 rcases h with⟨rfl,rfl⟩ | ⟨id,tl,cs,rfl,h2,h3,h4,h5⟩
 · cases hl
 · exact⟨id,rfl,h3,Heap.lt_of_get h4 (by simp)⟩
theorem room_app {P:Program}{t k:Nat}(T:TF P t k){H:Heap}{r tl N m n:Nat}{cs new:List Value}{v:Value}(hg:H.get r = .row true tl k cs)(hl:cs.length=N * k)(hv:∃ b,v = .slice b n n)(hc:cellsOf H k n v=some new)(hnew:new.length=n * k)(hm:m+n≤N)(hN:N≤100000) :
  ∃ H' cs',exAppend P [t,t] (.slice (some ⟨r,0,none⟩) m N) v H=some (.slice (some ⟨r,0,none⟩) (m+n) N,H')∧H'.get r = .row true tl k cs'∧cs'.length=N * k∧cs'.take ((m+n) * k)=cs.take (m * k)++new∧Same (·=r) H H':=by
 obtain⟨b,rfl⟩:=hv
 obtain⟨e,bb,z,h1,h2,h3,h4,h5,h6,h7,h8⟩:=T.ok
 have hb:(m+n+200) * bb≤140737488355328:=by
  have:(m+n+200) * bb≤(100000+200) * 1000:=Nat.mul_le_mul (by omega) h4
  omega
 have hr:=Heap.lt_of_get hg (by simp)
 have hmk:(m+n) * k≤N * k:=Nat.mul_le_mul_right _ hm
 have hmk2:(m+n) * k=m * k+n * k:=Nat.add_mul _ _ _
 by_cases h0:n=0
 · subst h0
   have:new=[]:=List.eq_nil_of_length_eq_zero (by omega)
   subst this
   refine⟨H,cs,?_,hg,hl,by simp,Same.refl _ _⟩
   simp only[Nat.add_zero]at hb
   simp only[exAppend,h1,h8,exAppendRow,h2,h3,h5,lenA,hc]
   simp[h7,h6]
   omega
 · refine⟨H.set r (.row true tl k (writeAt cs (m * k) new)),writeAt cs (m * k) new,?_,Heap.get_set_self _ _ hr,?_,?_,Same.set (X:=(·=r)) H hr rfl _⟩
   · simp only[exAppend,h1,h8,exAppendRow,h2,h3,h5,lenA,hc,hg]
     simp[h7,h6,h0,hm,hb,hl,hmk]
     omega
   · unfold writeAt
     simp only[List.length_append,List.length_take,List.length_drop,hnew,hl]
     omega
   · unfold writeAt
     rw[← List.append_assoc,List.take_append_of_le_length (by simp only[List.length_append,List.length_take,hnew,hl];omega),List.take_of_length_le (by simp only[List.length_append,List.length_take,hnew,hl];omega)]
theorem Rep.G_appAt (ρ:Rep α){P:Program}{t:TypeId}(T:TF P t ρ.k){H:Heap}{S:Nat→Prop}{v:Value}{l:List α}(h:ρ.G H S v l){r xid xt xe xc:Nat}{xo:Bool}(hr:r<H.n)(hS:¬S r)(hl:l.length≤100000){a:α}{c:List Value}(hx:H.get xid = .row xo xt xe c)(ha:ρ.R H (fun i=>S i∧¬vid v i) a c) :
  ∃ H',exAppendAt P [t,t] v (.slice (some ⟨xid,0,none⟩) 1 xc) r H=some (.slice (some ⟨r,0,none⟩) (l.length+1) (l.length+1),H')∧ρ.G H' (fun i=>S i∨i=r) (.slice (some ⟨r,0,none⟩) (l.length+1) (l.length+1)) (l++[a])∧Same (fun i=>vid v i∨i=r) H H'∧H'.n=H.n:=by
 have hc:=ρ.len ha
 obtain⟨e,b,z,h1,h2,h3,h4,h5,h6,h7,h8⟩:=T.ok
 have hb:(l.length+1+200) * b≤140737488355328:=by
  have:(l.length+1+200) * b≤(100000+1+200) * 1000:=Nat.mul_le_mul (by omega) h4
  omega
 have hc0:cellsOf H ρ.k 1 (.slice (some ⟨xid,0,none⟩) 1 xc)=some c:=by
  simp[hx,hc]
  exact List.take_of_length_le (by omega)
 rcases h with⟨rfl,rfl⟩ | ⟨id,tl,cs,rfl,h2',h3',h4',h5'⟩
 · refine⟨H.pushAt r (.row true 1 ρ.k c),?_,?_,?_,?_⟩
   · simp only[exAppendAt,h1,h8,exAppendRow,h2,h3,h5,lenA,hc0]
     simp at hb
     simp[h7,h6,hb]
   · rw[Heap.pushAt_lt hr]
     refine .inr ⟨r,1,c,by simp,by omega,.inr rfl,Heap.get_set_self _ _ hr,c,[],by simp,?_,rfl⟩
     exact ρ.move (Same.set (X:=(·=r)) H hr rfl _) (fun i hi _=>⟨⟨.inl hi.1,fun e=>hS (e ▸ hi.1)⟩,fun e=>hS (e ▸ hi.1)⟩) _ _ ha
   · rw[Heap.pushAt_lt hr];exact Same.set H hr (.inr rfl) _
   · rw[Heap.pushAt_lt hr];rfl
 · have hid:=Heap.lt_of_get h4' (by simp)
   have hir:id≠r:=fun e=>hS (e ▸ h3')
   have hcl:=ρ.L_len h5'
   have hne:¬l.length+1≤l.length:=by omega
   have mvL:∀ {H':Heap},Same (fun i=>i=id∨i=r) H H'→ρ.L H' (fun i=>(S i∨i=r)∧i≠r) l cs:=fun k=>ρ.L_move k (fun i hi _=>⟨⟨.inl hi.1,fun e=>hS (e ▸ hi.1)⟩,fun e=>e.elim hi.2 (fun e=>hS (e ▸ hi.1))⟩) h5'
   have mvR:∀ {H':Heap},Same (fun i=>i=id∨i=r) H H'→ρ.R H' (fun i=>(S i∨i=r)∧i≠r) a c:=fun k=>ρ.move k (fun i hi _=>⟨⟨.inl hi.1,fun e=>hS (e ▸ hi.1)⟩,fun e=>e.elim (fun e=>hi.2 e.symm) (fun e=>hS (e ▸ hi.1))⟩) _ _ ha
   rcases (show tl=0∨tl=1 by omega)with rfl | rfl
   · have k:Same (fun i=>i=id∨i=r) H (H.set r (.row true 1 ρ.k (cs++c))):=Same.set H hr (.inr rfl) _
     refine⟨H.set r (.row true 1 ρ.k (cs++c)),?_,?_,k.mono fun i hi=>hi.elim (fun e => .inl e.symm) .inr,rfl⟩
     · simp only[exAppendAt,h1,h8,exAppendRow,h2,h3,h5,lenA,hc0,h4']
       simp[h7,h6,hb,show l.length+1≤140737488355328 by omega,hne,hcl,Heap.pushAt_lt hr]
       rw[← hcl,List.take_length]
     · exact .inr ⟨r,1,cs++c,by simp,by omega,.inr rfl,Heap.get_set_self _ _ hr,ρ.L_snoc (mvR k) (mvL k)⟩
   · have k:Same (fun i=>i=id∨i=r) H ((H.set id .dead).set r (.row true 1 ρ.k (cs++c))):=(Same.set H hid (.inl rfl) _).trans (Same.set (H.set id .dead) hr (.inr rfl) _)
     refine⟨(H.set id .dead).set r (.row true 1 ρ.k (cs++c)),?_,?_,k.mono fun i hi=>hi.elim (fun e => .inl e.symm) .inr,rfl⟩
     · simp only[exAppendAt,h1,h8,exAppendRow,h2,h3,h5,lenA,hc0,h4']
       simp[h7,h6,hb,show l.length+1≤140737488355328 by omega,hne,hcl,Heap.pushAt_lt (H:=H.set id .dead) (r:=r) hr]
       rw[← hcl,List.take_length]
     · exact .inr ⟨r,1,cs++c,by simp,by omega,.inr rfl,Heap.get_set_self (H.set id .dead) _ hr,ρ.L_snoc (mvR k) (mvL k)⟩
end Go.Vm
namespace Go.Vm.Scope
open Go Go.Proofs Go.Vm.Parse
attribute [local simp] repCells_succ writeAt rd_Fr toList_beq gpe gpn spe gse gsn ne_r0 ne_l0 le_s0 ne_r1 ne_l1 lt_s1 le_s1 ne_r2 ne_l2 lt_s2 le_s2 ne_r3 ne_l3 lt_s3 le_s3 ne_r4 ne_l4 lt_s4 le_s4 ne_r5 ne_l5 lt_s5 le_s5 ne_r6 ne_l6 lt_s6 le_s6 ne_r7 ne_l7 lt_s7 le_s7
theorem tf_idn8:TF Tryz.prog 61 2:=⟨_,_,_,by simp,by simp,by simp;rfl,by omega,by simp;rfl,rfl,by omega,rfl⟩
theorem idn_L {H H':Heap}{S S':Nat→Prop}:∀ {l:List Idn}{cs:List Value},repIdn.L H S l cs→repIdn.L H' S' l cs
 | [],cs,h=>h
 | a :: l, cs, h => by
  obtain⟨c1,c2,e,h1,h2⟩:=h
  exact⟨c1,c2,e,h1,idn_L h2⟩
theorem rep_len (c:List Value):∀ n,(repCells n c).length=n * c.length
 | 0=>by simp[repCells]
 | n+1=>by simp[repCells,rep_len c n,Nat.add_mul]<;>omega
theorem cellsOf_same {H H':Heap}{X:Nat→Prop}(k:Same X H H'){n m:Nat}{v:Value}{cs:List Value}(h:cellsOf H n m v=some cs)(hx:∀ i,vid v i→i<H.n→¬X i):cellsOf H' n m v=some cs:=by
 cases v with
 | slice b l c =>
  cases b with
  | none=>exact h
  | some q =>
   obtain⟨id,off,p⟩:=q
   cases p with
   | some _=>exact h
   | none =>
    simp only[cellsOf]at h ⊢
    cases hg:H.get id with
    | row own tl es ds =>
     have hlt:=Heap.lt_of_get hg (by simp)
     rw[k.get id hlt (hx id rfl hlt),hg]
     rw[hg]at h
     exact h
    | _=>rw[hg]at h;cases h
 | string s=>exact h
 | _=>cases h
section
variable {E:Hooks} (hE:Plain E)
include hE
theorem c_Concat (args:List Value)(H:Heap):(run Tryz.prog E).call 74 args H=callB Tryz.prog E Tryz.f74 args H:=call_B Tryz.func74 rfl (by decide +kernel) (hE.no _ rfl rfl) args H
theorem c_GrowI (args:List Value)(H:Heap):(run Tryz.prog E).call 97 args H=callB Tryz.prog E Tryz.f97 args H:=call_B Tryz.func97 rfl (by decide +kernel) (hE.no _ rfl rfl) args H
theorem concat_run {H:Heap}{a:Nat}{S:Nat→Prop}{v1 v2:Value}{xs ys:List Idn}(h:H.get a = .row true 0 1 [v1,v2])(h1:repIdn.G H S v1 xs)(h2:repIdn.G H S v2 ys)(hl:xs.length+ys.length≤100000) :
  ∃ v H',(run Tryz.prog E).call 74 [.slice (some ⟨a,0,none⟩) 2 2] H=some (.val v,H')∧repIdn.G H' (fun i=>H.n≤i) v (xs++ys)∧Same (fun _=>False) H H':=by
 obtain⟨cs1,c1,k1,b1,rfl⟩:=repIdn.G_cells h1
 obtain⟨cs2,c2,k2,b2,rfl⟩:=repIdn.G_cells h2
 have n1:=repIdn.L_len c1
 have n2:=repIdn.L_len c2
 by_cases h0:xs.length+ys.length=0
 · obtain⟨rfl,rfl⟩:xs=[]∧ys=[]:=⟨List.eq_nil_of_length_eq_zero (by omega),List.eq_nil_of_length_eq_zero (by omega)⟩
   have e1:∀ b,cellsOf H repIdn.k 0 (.slice b 0 0)=some []→exAppend Tryz.prog [61,61] (.slice none 0 0) (.slice b 0 0) H=some (.slice none 0 0,H):=by
    intro b hs
    obtain⟨e,bb,z,h1,h2,h3,h4,h5,h6,h7,h8⟩:=tf_idn8.ok
    simp only[repIdn]at hs
    simp only[exAppend,h1,h8,exAppendRow,h2,h3,h5,lenA,hs]
    simp[h6,h7]
    omega
   have z1:cs1=[]:=List.eq_nil_of_length_eq_zero (by simpa using n1)
   have z2:cs2=[]:=List.eq_nil_of_length_eq_zero (by simpa using n2)
   subst z1
   subst z2
   have e2:=e1 _ k1
   have e3:=e1 _ k2
   have key:Gives ((run Tryz.prog E).call 74 [.slice (some ⟨a,0,none⟩) 2 2] H) fun o H'=>o = .val (.slice none 0 0)∧H'=H:=by
    rw[c_Concat hE,callB,bodyOf]
    simp at h
    simp[Tryz.f74,code_loop,h,e2,e3,c_GrowI hE,callB,bodyOf,Tryz.f97,exCap,exLen,Tryz.underlying61,wrap64 0 (by omega) (by omega),wrap64 1 (by omega) (by omega),wrap64 2 (by omega) (by omega)]
   obtain⟨o,H',e,rfl,rfl⟩:=key
   exact⟨_,_,e,.inl ⟨rfl,rfl⟩,Same.refl _ _⟩
 · have f0:=Same.push (fun _=>False) H (.row true 1 2 (repCells (xs.length+ys.length) [.int .i64 0,.string ByteArray.empty]))
   have hz:(repCells (xs.length+ys.length) [.int .i64 0,.string ByteArray.empty]).length=(xs.length+ys.length) * 2:=by rw[rep_len];rfl
   have q1:cellsOf (H.push (.row true 1 2 (repCells (xs.length+ys.length) [.int .i64 0,.string ByteArray.empty]))) 2 xs.length (.slice b1 xs.length xs.length)=some cs1:=cellsOf_same f0 k1 (fun i _ _ h=>h)
   obtain⟨H1,ds1,e1,g1,m1,t1,f1⟩:=room_app tf_idn8 (r:=H.n) (m:=0) (N:=xs.length+ys.length) (Heap.get_push_self H _) hz ⟨_,rfl⟩ q1 n1 (by omega) hl
   have q2:cellsOf H1 2 ys.length (.slice b2 ys.length ys.length)=some cs2:=cellsOf_same f1 (cellsOf_same f0 k2 (fun i _ _ h=>h)) (fun i hi _ e=>by have:=(repIdn.G_lt h2 hi).1;omega)
   obtain⟨H2,ds2,e2,g2,m2,t2,f2⟩:=room_app tf_idn8 (r:=H.n) (m:=xs.length) (N:=xs.length+ys.length) g1 m1 ⟨_,rfl⟩ q2 n2 (Nat.le_refl _) hl
   have ha:a<H.n:=Heap.lt_of_get h (by simp)
   have ha1:H1.get a = .row true 0 1 [.slice b1 xs.length xs.length,.slice b2 ys.length ys.length]:=f1.at (f0.at h (by simp) (fun h=>h)) (by simp) (by omega)
   have key:Gives ((run Tryz.prog E).call 74 [.slice (some ⟨a,0,none⟩) 2 2] H) fun o H'=>o = .val (.slice (some ⟨H.n,0,none⟩) (xs.length+ys.length) (xs.length+ys.length))∧H'=H2:=by
    rw[c_Concat hE,callB,bodyOf]
    simp only[Nat.zero_add]at e1
    have e0:exAppend Tryz.prog [61,3] (.slice none 0 0) (.int .i64 ((xs.length:Int)+ys.length)) H=some (.slice (some ⟨H.n,0,none⟩) (xs.length+ys.length) (xs.length+ys.length),H.push (.row true 1 2 (repCells (xs.length+ys.length) [.int .i64 0,.string ByteArray.empty]))):=by
     simp[exAppend,exAppendMake,Tryz.underlying3,show 0≤(xs.length:Int)+ys.length by omega,show (xs.length:Int)+ys.length≤1000000 by omega,show ¬((xs.length:Int)+ys.length=0) by omega,show ((xs.length:Int)+ys.length).toNat=xs.length+ys.length by omega]
    have e3:exSlice Tryz.prog 61 (.slice none 0 0) none (some (.int .i64 0)) none H=some (.slice none 0 0,H):=by simp[exSlice,Tryz.underlying61]
    simp[Tryz.f74,code_loop,h,e0,e1,e2,e3,ha1,Nat.ne_of_lt ha,Heap.get_push_lt _ _ ha,c_GrowI hE,callB,bodyOf,Tryz.f97,exCap,exLen,Tryz.underlying61,wrap64 0 (by omega) (by omega),wrap64 1 (by omega) (by omega),wrap64 2 (by omega) (by omega),wrap64 (xs.length:Int) (by omega) (by omega),wrap64 ((xs.length:Int)+ys.length) (by omega) (by omega),
     show ¬(xs.length:Int)<0 by omega,show ¬(xs.length:Int)+ys.length<0 by omega,show 0<(xs.length:Int)+ys.length by omega,show 0≤(xs.length:Int)+ys.length by omega,cutA]
   obtain⟨o,H',e,rfl,rfl⟩:=key
   have k02:Same (fun _=>False) H H':=(f0.then f1 (fun i hi => .inr (by omega))).then f2 (fun i hi => .inr (by omega))
   refine⟨_,_,e,.inr ⟨H.n,1,ds2,by simp,by omega,Nat.le_refl _,g2,?_⟩,k02⟩
   have hd:ds2=cs1++cs2:=by
    simp only[Nat.zero_add,Nat.zero_mul,List.take_zero,List.nil_append]at t1
    rw[List.take_of_length_le (by omega)]at t2
    rw[t2,t1]
   rw[hd]
   exact repIdn.L_append (idn_L c1) (idn_L c2)
end
def localsP (np:Nat):List (ByteArray × Int)→Nat→List Idn→Except (Int × Int) (List (ByteArray × Int))
 | acc,_,[] => .ok acc
 | acc,i,x :: xs=>if (findP x.name acc).isSome=true then .error (17,x.at_)else if (i<np∧4≤i)∨8≤i then .error (16,x.at_)else localsP np (acc++[(x.name,(i:Int))]) (i+1) xs
def procT (T:Tab)(p:Prc)(l:List (ByteArray × Int)):Tab:={ T with procs:=T.procs++[(p.name,(T.locals.length:Int))],locals:=T.locals++[l],params:=T.params++[(p.params.length:Int)] }
def procB (T:Tab)(p:Prc):Except (Int × Int) Tab :=
 if knownP T p.name=true then .error (17,p.at_)
 else if 12≤T.procs.length then .error (16,p.at_)
 else match localsP p.params.length [] 0 (p.params++p.vars)with
  | .error e => .error e
  | .ok l => .ok (procT T p l)
theorem tf_loc9:TF Tryz.prog 101 1:=⟨_,_,_,by simp,by simp,by simp;rfl,by omega,by simp;rfl,rfl,by omega,rfl⟩
theorem q_proc0:quiet Tryz.prog (drawN Tryz.f46 0)=true:=by decide +kernel
theorem no_proc1:planOf Tryz.prog (drawN Tryz.f46 1)=none:=by decide +kernel
theorem late_proc1:lateAt (drawN Tryz.f46 1)=none:=by decide +kernel
theorem pre_proc1:preOf (drawN Tryz.f46 1)=[0,0,0,4,12,28,0,64,252,0,512,1536,3584,0,8192,24576,57344,131068,262141,524285,1048573,2097151,4194303,8388607]:=by decide +kernel
theorem ok_proc1:freeOK (drawN Tryz.f46 1) [0,0,0,4,12,28,0,64,252,0,512,1536,3584,0,8192,24576,57344,131068,262141,524285,1048573,2097151,4194303,8388607]=true:=by decide +kernel
theorem need_proc1:needAll (drawN Tryz.f46 1)=4:=by decide +kernel
section
variable {H:Heap} {col:Nat→Nat} {tid nid pid rid:Nat} {v1 v2 v3 v4 v5:Value} {T:Tab}
theorem RTab.set_procs (h:RTab H col tid nid pid rid v1 v2 v3 v4 v5 T)(l:List (ByteArray × Int)):RTab (H.set pid (.map (ents vI l))) col tid nid pid rid v1 v2 v3 v4 v5 { T with procs:=l }:=by
 have k:Same (fun i=>i=pid) H (H.set pid (.map (ents vI l))):=Same.set (X:=fun i=>i=pid) H h.lt.2.2.1 rfl _
 have ne:∀ i,col i≠3→¬i=pid:=fun i hi e=>hi (by rw[e];exact h.pc)
 have mv:∀ {c:Nat},c≠3→∀ i,col i=c→i<H.n→col i=c∧¬i=pid:=fun hc i hi _=>⟨hi,ne i (by omega)⟩
 exact⟨k.at h.obj (by simp) (ne _ (by have:=h.tc;omega)),h.tc,k.at h.nm (by simp) (ne _ (by have:=h.nc;omega)),h.nc,Heap.get_set_self _ _ h.lt.2.2.1,h.pc,k.at h.rm (by simp) (ne _ (by have:=h.rc;omega)),h.rc,
  repLoc.G_move k (mv (by omega)) h.g1,repInt.G_move k (mv (by omega)) h.g2,repCel.G_move k (mv (by omega)) h.g3,repInt.G_move k (mv (by omega)) h.g4,repInt.G_move k (mv (by omega)) h.g5,h.top⟩
end
def LocI (K0:Heap)(np lid:Nat)(ids:List Idn)(res:Except (Int × Int) (List (ByteArray × Int)))(m:Nat)(t:List Value)(K:Heap):Prop :=
 ∃ k acc,k≤ids.length∧m=ids.length - k∧rd t 47 = .int .i64 k∧localsP np acc k (ids.drop k)=res∧K.get lid = .map (ents vI acc)∧Same (fun i=>i=lid) K0 K
def LocJ (K0:Heap)(lid:Nat)(res:Except (Int × Int) (List (ByteArray × Int)))(t:List Value)(K:Heap):Prop :=
 ∃ l,res = .ok l∧K.get lid = .map (ents vI l)∧Same (fun i=>i=lid) K0 K
section
variable {E:Hooks} (hE:Plain E)
include hE
theorem proc_ok8:TProcOK E procB:=by
 intro T p col tid nid pid rid v1 v2 v3 v4 v5 cs K hT hok hlen hp
 obtain⟨w1,w2,w3,rfl,gp,gv,gb⟩:=hp
 obtain⟨b1,rfl⟩:=repIdn.G_slice gp
 obtain⟨b2,rfl⟩:=repIdn.G_slice gv
 obtain⟨b3,rfl⟩:=repStm.G_slice gb
 have hT1:=(hT.keep (Same.push (fun _=>False) _ (.row true 0 1 (pc5 p.at_ p.name (.slice b1 p.params.length p.params.length) (.slice b2 p.vars.length p.vars.length) (.slice b3 p.body.length p.body.length)))) (fun _ h=>h.elim)).keep (Same.push (fun _=>False) _ (.row true 0 1 [.int .i64 0,.int .i64 0])) (fun _ h=>h.elim)
 obtain⟨K2,eK,kK⟩:=known_run hE hT1 p.name
 have hT2:=hT1.keep kK (fun _ h=>h.elim)
 have k2:Same (fun _=>False) K K2:=((Same.push _ _ _).then_push _).trans kK
 have gP2:K2.get K.n = .row true 0 1 (pc5 p.at_ p.name (.slice b1 p.params.length p.params.length) (.slice b2 p.vars.length p.vars.length) (.slice b3 p.body.length p.body.length)):=kK.at (by rw[Heap.get_push,if_neg (by simp),Heap.get_push_self]) (by simp) (fun h=>h)
 have gF2:K2.get (K.n+1) = .row true 0 1 [.int .i64 0,.int .i64 0]:=kK.at (Heap.get_push_self _ _) (by simp) (fun h=>h)
 have l0:=hT.lt
 have l2:=hT2.lt
 have tF2:=Heap.lt_of_get gF2 (by simp)
 have tP2:K.n<K2.n:=by omega
 have g02:=hT2.obj
 have lP:=len_ints hT2.pm
 have c0:col (K.n+1)=0:=hT.top _ (by omega)
 rw[c_sproc hE,callB,bodyOf]
 unfold procB
 simp only[pc5]at eK gP2 ⊢
 by_cases h1:knownP T p.name=true
 · rw[if_pos h1]
   simp[Tryz.f46,eK,h1,gP2,gF2,tF2]
   exact (Same.none k2).then_set tF2 (.inr (by omega)) _
 rw[if_neg h1]
 have h1':knownP T p.name=false:=by simpa using h1
 obtain⟨n1,n2⟩:=known_no h1'
 by_cases h2:12≤T.procs.length
 · rw[if_pos h2]
   have h2':(12:Int)≤T.procs.length:=by omega
   simp[Tryz.f46,eK,h1',gP2,gF2,tF2,g02,lP,h2,h2']
   exact (Same.none k2).then_set tF2 (.inr (by omega)) _
 rw[if_neg h2]
 have h2':¬(12:Int)≤T.procs.length:=by omega
 have eM:=put_ints hT2.pm n2 (T.locals.length:Int)
 obtain⟨lq,el,clq,hlq⟩:=repLoc.G_some hT.g1 (by have:=hok.l;omega)
 subst el
 obtain⟨pq,el,cpq,hpq⟩:=repInt.G_some hT.g2 (by have:=hok.p;omega)
 subst el
 have hT3:=hT2.set_procs (T.procs++[(p.name,(T.locals.length:Int))])
 simp[Tryz.f46,eK,h1',gP2,gF2,tF2,g02,lP,h2,h2']
 refine region_quiet (by exact q_proc0) ?_
 have k3:Same (fun i=>col i≠0) K (K2.set pid (.map (ents vI (T.procs++[(p.name,(T.locals.length:Int))])))):=(Same.none k2).then_set l2.2.2.1 (.inl (by have:=hT.pc;omega)) _
 have nP:¬K.n=pid:=by omega
 have nF:¬K.n+1=pid:=by omega
 have gP3:(K2.set pid (.map (ents vI (T.procs++[(p.name,(T.locals.length:Int))])))).get K.n = .row true 0 1 [.int .i64 p.at_,.string p.name,.slice b1 p.params.length p.params.length,.slice b2 p.vars.length p.vars.length,.slice b3 p.body.length p.body.length]:=by rw[Heap.get_set _ _ _ l2.2.2.1,if_neg nP];exact gP2
 have gF3:(K2.set pid (.map (ents vI (T.procs++[(p.name,(T.locals.length:Int))])))).get (K.n+1) = .row true 0 1 [.int .i64 0,.int .i64 0]:=by rw[Heap.get_set _ _ _ l2.2.2.1,if_neg nF];exact gF2
 have n3:(K2.set pid (.map (ents vI (T.procs++[(p.name,(T.locals.length:Int))])))).n=K2.n:=rfl
 simp[g02,gP2,eM]
 generalize hK3:K2.set pid (.map (ents vI (T.procs++[(p.name,(T.locals.length:Int))])))=K3 at *
 have q3:∀ o o':AObj,((K3.push o).push o').get K.n=K3.get K.n:=fun o o'=>by rw[Heap.get_push,if_neg (by simp;omega),Heap.get_push,if_neg (by omega)]
 have q3':∀ o:AObj,(K3.push o).get K.n=K3.get K.n:=fun o=>by rw[Heap.get_push,if_neg (by omega)]
 have gp3:repIdn.G ((K3.push (.map [])).push (.row true 0 1 [.slice b1 p.params.length p.params.length,.slice b2 p.vars.length p.vars.length])) (fun i=>col i=0) (.slice b1 p.params.length p.params.length) p.params :=
  repIdn.G_move (X:=fun i=>col i≠0) ((k3.then_push _).then_push _) (fun i hi _=>⟨hi,fun h=>h hi⟩) gp
 have gv3:repIdn.G ((K3.push (.map [])).push (.row true 0 1 [.slice b1 p.params.length p.params.length,.slice b2 p.vars.length p.vars.length])) (fun i=>col i=0) (.slice b2 p.vars.length p.vars.length) p.vars :=
  repIdn.G_move (X:=fun i=>col i≠0) ((k3.then_push _).then_push _) (fun i hi _=>⟨hi,fun h=>h hi⟩) gv
 obtain⟨v,K5,e5,g5,k5⟩:=concat_run hE (H:=(K3.push (.map [])).push (.row true 0 1 [.slice b1 p.params.length p.params.length,.slice b2 p.vars.length p.vars.length])) (a:=K3.n+1) (Heap.get_push_self (K3.push (.map [])) _) gp3 gv3 hlen
 have hids2:(p.params++p.vars).length≤100000:=by rw[List.length_append];exact hlen
 generalize hids:p.params++p.vars=ids at *
 obtain⟨b5,rfl⟩:=repIdn.G_slice g5
 simp[q3,q3',gP3,e5]
 have n5:=k5.n
 simp at n5
 have gP5:K5.get K.n=_:=k5.at ((q3 _ _).trans gP3) (by simp) (fun h=>h)
 have gF5:K5.get (K.n+1) = .row true 0 1 [.int .i64 0,.int .i64 0]:=k5.at (by rw[Heap.get_push,if_neg (by simp;omega),Heap.get_push,if_neg (by omega)];exact gF3) (by simp) (fun h=>h)
 have gl5:K5.get K3.n = .map []:=k5.at (by rw[Heap.get_push,if_neg (by simp),Heap.get_push_self]) (by simp) (fun h=>h)
 generalize hr0:localsP p.params.length [] 0 ids=res
 refine loop_mid2 (LocJ K5 K3.n res) (LocI K5 p.params.length K3.n ids res) ids.length ?_ ?_ ?_
 · exact⟨0,[],Nat.zero_le _,by simp,by simp,hr0,gl5,Same.refl _ _⟩
 · rintro m t K6 hk ⟨k,acc,hkl,rfl,g47,hres,gM,k6⟩
   have ht:t.length=107:=hk.1.trans (by simp[len_Bs])
   have hh:=hk.all [0,3,4,5,45,46] (by decide +kernel)
   simp at hh
   obtain⟨u0,u3,u4,u5,u45,u46⟩:=hh
   have lM:=Heap.lt_of_get gM (by simp)
   have gP6:=k6.at gP5 (by simp) (by omega)
   have gF6:=k6.at gF5 (by simp) (by omega)
   have tF6:=Heap.lt_of_get gF6 (by simp)
   have tP6:K.n<K6.n:=by omega
   rcases Nat.lt_or_ge k ids.length with hlt | hge
   · have hb5:∃ id tl cs,b5=some ⟨id,0,none⟩∧K3.n<id∧K5.get id = .row true tl 2 cs∧cs.length=ids.length * 2∧(cs.drop (k * 2)).take 2=(ids[k]).cells:=by
      rcases g5 with⟨e1,e2⟩ | ⟨id,tl,cs,e1,_,e3,e4,e5'⟩
      · rw[e2]at hlt;cases hlt
      · cases e1
        exact⟨id,tl,cs,rfl,by simp at e3;omega,e4,repIdn.L_len e5',repIdn.L_get k hlt e5'⟩
     obtain⟨id,tl,cs,rfl,hid,hrow,hcl,hget⟩:=hb5
     have hrow6:=k6.at hrow (by simp) (by omega)
     have hdrop:ids.drop k=ids[k] :: ids.drop (k+1):=List.drop_eq_getElem_cons hlt
     rw[hdrop]at hres
     generalize ids[k]=x at *
     have hkl':(k:Int)<ids.length:=by omega
     have gM2:K6.get K2.n = .map (ents vI acc):=by rw[← n3];exact gM
     have f1:=fun o:AObj=>look_ints (H:=K6.push o) (nid:=K2.n) (l:=acc) (by rw[Heap.get_push,if_neg (by omega)];exact gM2) x.name
     have w1:IntKind.i64.wrap ((k:Int)+1)=(k:Int)+1:=wrap64 _ (by omega) (by omega)
     have f0:((findP x.name acc).map vI).getD (.int .i64 0) = .int .i64 ((findP x.name acc).getD 0):=by cases findP x.name acc<;>rfl
     rw[f0]at f1
     rw[localsP]at hres
     simp only[Idn.cells]at hget
     by_cases hf:(findP x.name acc).isSome=true
     · rw[if_pos hf]at hres
       rw[← hres]
       simp[ht,u0,u3,u4,u5,u45,u46,g47,hlt,hkl',hrow6,hcl,hget,show k * 2+2≤ids.length * 2 by omega,f1,hf,w1,tF6,gF6]
       have kA:Same (fun i=>col i≠0) K K6:=(((k3.then_push _).then_push _).then k5 (fun i hi=>hi.elim)).then k6 (fun i hi => .inr (by omega))
       exact (kA.then_push _).then_set (by simp;omega) (.inr (by omega)) _
     · rw[if_neg hf]at hres
       have hf':findP x.name acc=none:=by simpa using hf
       have em:=fun o:AObj=>put_ints (H:=K6.push o) (nid:=K2.n) (l:=acc) (by rw[Heap.get_push,if_neg (by omega)];exact gM2) hf' (k:Int)
       simp[ht,u0,u3,u4,u5,u45,u46,g47,hlt,hkl',hrow6,hcl,hget,show k * 2+2≤ids.length * 2 by omega,f1,hf']
       have kA:Same (fun i=>col i≠0) K K6:=(((k3.then_push _).then_push _).then k5 (fun i hi=>hi.elim)).then k6 (fun i hi => .inr (by omega))
       have q6:∀ o:AObj,(K6.push o).get K.n=K6.get K.n:=fun o=>by rw[Heap.get_push,if_neg (by omega)]
       have q6F:∀ o:AObj,(K6.push o).get (K.n+1)=K6.get (K.n+1):=fun o=>by rw[Heap.get_push,if_neg (by omega)]
       have bad:(k<p.params.length∧4≤k)∨8≤k→res = .error (16,x.at_):=fun h=>by rw[← hres,if_pos h]
       have good:¬((k<p.params.length∧4≤k)∨8≤k)→localsP p.params.length (acc++[(x.name,(k:Int))]) (k+1) (ids.drop (k+1))=res:=fun h=>by rw[← hres,if_neg h]
       have fin:∀ t':List Value,rd t' 47 = .int .i64 ((k:Int)+1)→¬((k<p.params.length∧4≤k)∨8≤k)→LocI K5 p.params.length K3.n ids res (ids.length - (k+1)) t' ((K6.push (.row true 0 1 [.int .i64 x.at_,.string x.name])).set K2.n (.map (ents vI (acc++[(x.name,(k:Int))])))):=fun t' ht' hc =>
        ⟨k+1,_,by omega,rfl,by rw[ht'];simp,good hc,by rw[n3];exact Heap.get_set_self _ _ (by simp;omega),(k6.then_push _).then_set (by simp;omega) (.inl n3.symm) _⟩
       by_cases c1:k<p.params.length
       · have c1':(k:Int)<p.params.length:=by omega
         by_cases c2:4≤k
         · have c2':(4:Int)≤k:=by omega
           rw[bad (.inl ⟨c1,c2⟩)]
           simp[ht,u0,u3,u4,u5,g47,q6,q6F,gP6,gF6,tF6,c1,c1',c2,c2']
           exact (kA.then_push _).then_set (by simp;omega) (.inr (by omega)) _
         · have c2':¬(4:Int)≤k:=by omega
           have c3':¬(8:Int)≤k:=by omega
           simp[ht,u0,u3,u4,u5,g47,q6,q6F,gP6,gF6,tF6,c1,c1',c2,c2',c3',em,w1]
           exact⟨_,by omega,fin _ (by simp[ht]) (by omega)⟩
       · have c1':¬(k:Int)<p.params.length:=by omega
         by_cases c3:8≤k
         · have c3':(8:Int)≤k:=by omega
           rw[bad (.inr c3)]
           simp[ht,u0,u3,u4,u5,g47,q6,q6F,gP6,gF6,tF6,c1,c1',c3,c3']
           exact (kA.then_push _).then_set (by simp;omega) (.inr (by omega)) _
         · have c3':¬(8:Int)≤k:=by omega
           simp[ht,u0,u3,u4,u5,g47,q6,q6F,gP6,gF6,tF6,c1,c1',c3,c3',em,w1]
           exact⟨_,by omega,fin _ (by simp[ht]) (by omega)⟩
   · have:k=ids.length:=by omega
     subst this
     simp[ht,u0,u3,u4,u5,u45,u46,g47]
     refine⟨acc,?_,gM,k6⟩
     rw[List.drop_length]at hres
     exact hres.symm
 · rintro t K6 hk ⟨l,hl,gM,k6⟩
   have ht:t.length=107:=hk.1.trans (by simp[len_Bs])
   have hh:=hk.all [0,3,4,5,45,46] (by decide +kernel)
   simp at hh
   obtain⟨u0,u3,u4,u5,u45,u46⟩:=hh
   subst hl
   have gP6:=k6.at gP5 (by simp) (by omega)
   have gF6:=k6.at gF5 (by simp) (by omega)
   have tF6:=Heap.lt_of_get gF6 (by simp)
   have kB:Same (fun _=>False) K3 K6:=(((Same.push (fun _=>False) K3 (.map [])).then_push (.row true 0 1 [.slice b1 p.params.length p.params.length,.slice b2 p.vars.length p.vars.length])).then k5 (fun i hi=>hi.elim)).then k6 (fun i hi => .inr (by omega))
   have hT6:=hT3.keep kB (fun _ h=>h.elim)
   have g06:=hT6.obj
   have l6:=hT6.lt
   simp only at g06
   simp[ht]
   refine region_free (by exact no_proc1) (by exact late_proc1) (by exact pre_proc1) (by exact ok_proc1) (by exact need_proc1) ?_
   have qt:∀ o1 o2 o3 o4:AObj,((((K6.push o1).push o2).push o3).push o4).get tid=K6.get tid:=fun o1 o2 o3 o4=>by
    rw[Heap.get_push,if_neg (by simp;omega),Heap.get_push,if_neg (by simp;omega),Heap.get_push,if_neg (by simp;omega),Heap.get_push,if_neg (by omega)]
   simp[ht,u0,u3,u4,u5,g06,qt]
   have lMK:=Heap.lt_of_get gM (by simp)
   have cz:∀ i,K.n≤i→col i=0:=hT.top
   have qn:((((K6.push .dead).push .dead).push .dead).push .dead).n=K6.n+4:=rfl
   have kR:Same (fun _=>False) K6 ((((K6.push .dead).push .dead).push .dead).push .dead):=(((Same.push _ _ _).then_push _).then_push _).then_push _
   generalize hR:(((K6.push .dead).push .dead).push .dead).push .dead=R at *
   have e7:exBuildSliceAt Tryz.prog 101 1 [(0,.map (some K2.n))] K6.n R=some (.slice (some ⟨K6.n,0,none⟩) 1 1,R.set K6.n (.row true 0 1 [.map (some K2.n)])):=by
    simp[exBuildSliceAt,Heap.pushAt_lt (show K6.n<R.n by omega)]
    rfl
   have k7:Same (fun i=>i=K6.n) R (R.set K6.n (.row true 0 1 [.map (some K2.n)])):=Same.set (X:=fun i=>i=K6.n) R (by omega) rfl _
   have gM7:(R.set K6.n (.row true 0 1 [.map (some K2.n)])).get K2.n = .map (ents vI l):=k7.at (kR.at (by rw[← n3];exact gM) (by simp) (fun h=>h)) (by simp) (by omega)
   have G7:repLoc.G (R.set K6.n (.row true 0 1 [.map (some K2.n)])) (fun i=>col i=5∨i=K2.n) (.slice (some ⟨lq,0,none⟩) T.locals.length T.locals.length) T.locals :=
    repLoc.G_move (Same.none (kR.mono fun _ h=>h) |>.trans k7) (fun i hi hlt=>⟨.inl hi,fun e=>by have:=cz i (by omega);omega⟩) hT6.g1
   have hvl:∀ i,vid (.slice (some ⟨lq,0,none⟩) T.locals.length T.locals.length) i→i<K6.n∧col i=5:=fun i hi=>repLoc.G_lt hT6.g1 hi
   obtain⟨R8,e8,G8,k8,n8⟩:=repLoc.G_appAt tf_loc9 G7 (r:=K6.n+1) (xid:=K6.n) (xc:=1) (by simp;omega) (fun h=>by have:=cz (K6.n+1) (by omega);omega) (by have:=hok.l;have:=hok.q;omega) (a:=l) (c:=[.map (some K2.n)]) (Heap.get_set_self _ _ (by omega)) (.inr ⟨K2.n,rfl,⟨.inr rfl,fun h=>by have:=(hvl _ h).2;have:=cz K2.n (by omega);omega⟩,gM7⟩)
   simp at n8
   have g08:R8.get tid=_:=k8.at (k7.at (kR.at g06 (by simp) (fun h=>h)) (by simp) (by omega)) (by simp) (fun h=>by
    rcases h with h | h
    · have:=(hvl _ h).2;have:=hT.tc;omega
    · omega)
   have gP8:R8.get K.n=_:=k8.at (k7.at (kR.at gP6 (by simp) (fun h=>h)) (by simp) (by omega)) (by simp) (fun h=>by
    rcases h with h | h
    · have:=(hvl _ h).2;have:=cz K.n (by omega);omega
    · omega)
   have e9:exBuildSliceAt Tryz.prog 22 1 [(0,.int .i64 p.params.length)] (K6.n+2) R8=some (.slice (some ⟨K6.n+2,0,none⟩) 1 1,R8.set (K6.n+2) (.row true 0 1 [.int .i64 p.params.length])):=by
    simp[exBuildSliceAt,Heap.pushAt_lt (show K6.n+2<R8.n by omega)]
    rfl
   have k9:Same (fun i=>i=K6.n+2) R8 (R8.set (K6.n+2) (.row true 0 1 [.int .i64 p.params.length])):=Same.set (X:=fun i=>i=K6.n+2) R8 (by omega) rfl _
   have mv8:∀ i,i<K.n→col i≠5→¬((vid (.slice (some ⟨lq,0,none⟩) T.locals.length T.locals.length) i)∨i=K6.n+1):=fun i hi hc e=>e.elim (fun e=>hc (hvl _ e).2) (fun e=>by omega)
   have hX:∀ i,col i≠0→i<K.n:=fun i hi=>by
    rcases Nat.lt_or_ge i K.n with h | h
    · exact h
    · exact absurd (cz i h) hi
   have kAll:Same (fun i=>i=K6.n∨vid (.slice (some ⟨lq,0,none⟩) T.locals.length T.locals.length) i∨i=K6.n+1∨i=K6.n+2) K6 (R8.set (K6.n+2) (.row true 0 1 [.int .i64 p.params.length])) :=
    ((kR.mono fun _ h=>h.elim).trans ((k7.mono fun _ h => .inl h).trans ((k8.mono fun _ h => .inr (h.elim .inl (fun h => .inr (.inl h)))).trans (k9.mono fun _ h => .inr (.inr (.inr h))))))
   have G9:repInt.G (R8.set (K6.n+2) (.row true 0 1 [.int .i64 p.params.length])) (fun i=>col i=6) (.slice (some ⟨pq,0,none⟩) T.params.length T.params.length) T.params :=
    repInt.G_move kAll (fun i hi hlt=>⟨hi,fun e=>by
     have:=hX i (by omega)
     rcases e with e | e | e | e
     · omega
     · have:=(hvl _ e).2;omega
     · omega
     · omega⟩) hT6.g2
   obtain⟨R10,e10,G10,k10,n10⟩:=repInt.G_appAt tf_int G9 (r:=K6.n+3) (xid:=K6.n+2) (xc:=1) (by simp;omega) (fun h=>by have:=cz (K6.n+3) (by omega);omega) (by have:=hok.p;have:=hok.q;omega) (a:=p.params.length) (c:=[.int .i64 p.params.length]) (Heap.get_set_self _ _ (by omega)) rfl
   have t10:tid<R10.n:=by simp at n10;omega
   have g010:R10.get tid=_:=k10.at (k9.at g08 (by simp) (by omega)) (by simp) (fun h=>by
    rcases h with h | h
    · have:pq=tid:=h;have:=hT.tc;rw[‹pq=tid›]at cpq;omega
    · omega)
   have gP9:(R8.set (K6.n+2) (.row true 0 1 [.int .i64 p.params.length])).get K.n=_:=k9.at gP8 (by simp) (by omega)
   have g09:(R8.set (K6.n+2) (.row true 0 1 [.int .i64 p.params.length])).get tid=_:=k9.at g08 (by simp) (by omega)
   have z1:¬tid=lq:=fun e=>by have:=hT.tc;rw[e]at this;omega
   have z2:¬tid=pq:=fun e=>by have:=hT.tc;rw[e]at this;omega
   have z3:¬lq=pq:=fun e=>by rw[e]at clq;omega
   have z4:tid<K.n:=l0.1
   have z5:¬K.n=tid:=by omega
   simp[ht,u0,u3,e7,e8,g08,gP8,e9,gP9,g09,e10,g010,t10]
   have gF10:R10.get (K.n+1) = .row true 0 1 [.int .i64 0,.int .i64 0]:=k10.at (k9.at (k8.at (k7.at (kR.at gF6 (by simp) (fun h=>h)) (by simp) (by omega)) (by simp) (fun h=>by
    rcases h with h | h
    · have:lq=K.n+1:=h;omega
    · omega)) (by simp) (by omega)) (by simp) (fun h=>by
    rcases h with h | h
    · have:pq=K.n+1:=h;omega
    · omega)
   have ne:∀ {a b:Nat},a<b→(a=b)=False∧(b=a)=False:=fun h=>⟨eq_false (by omega),eq_false (by omega)⟩
   have a1:=ne (show tid<K.n by omega)
   have a2:=ne (show tid<K6.n by omega)
   have a3:=ne (show tid<K6.n+1 by omega)
   have a4:=ne (show tid<K6.n+2 by omega)
   have a5:=ne (show tid<K6.n+2+1 by omega)
   have b1:=ne (show lq<K.n by omega)
   have b2:=ne (show lq<K6.n by omega)
   have b3:=ne (show lq<K6.n+1 by omega)
   have b4:=ne (show lq<K6.n+2 by omega)
   have b5:=ne (show lq<K6.n+2+1 by omega)
   have c1:=ne (show pq<K.n by omega)
   have c2:=ne (show pq<K6.n by omega)
   have c3:=ne (show pq<K6.n+1 by omega)
   have c4:=ne (show pq<K6.n+2 by omega)
   have c5:=ne (show pq<K6.n+2+1 by omega)
   have d1:=ne (show K.n<K6.n by omega)
   have d2:=ne (show K.n<K6.n+1 by omega)
   have d3:=ne (show K.n<K6.n+2 by omega)
   have d4:=ne (show K.n<K6.n+2+1 by omega)
   have f1:(lq=tid)=False:=eq_false fun e=>z1 e.symm
   have f2:(pq=tid)=False:=eq_false fun e=>z2 e.symm
   have f3:(pq=lq)=False:=eq_false fun e=>z3 e.symm
   have a6:=ne (show tid<K.n+1 by omega)
   have n10':K.n+1<R10.n:=Heap.lt_of_get gF10 (by simp)
   simp (config:={ decide:=true }) [ht,u4,gF10,a6,n10',t10,a1,a2,a3,a4,a5,b1,b2,b3,b4,b5,c1,c2,c3,c4,c5,d1,d2,d3,d4,f1,f2,f3,z1,z2,z3,List.elem_eq_mem]
   generalize hrow:AObj.row true 0 1 [Value.map (some nid),Value.map (some pid),Value.slice (some ⟨K6.n+1,0,none⟩) (T.locals.length+1) (T.locals.length+1),Value.slice (some ⟨K6.n+3,0,none⟩) (T.params.length+1) (T.params.length+1),v3,v4,v5,Value.map (some rid),Value.int IntKind.i64 T.words]=row at *
   have kF10:Same (fun i=>i=tid∨i=K.n+1) R10 ((R10.set tid row).set (K.n+1) (.row true 0 1 [.int .i64 0,.int .i64 0])):=(Same.set R10 t10 (.inl rfl) _).trans (Same.set (R10.set tid row) n10' (.inr rfl) _)
   have kF8:Same (fun i=>i=K6.n+2∨i=pq∨i=K6.n+3∨i=tid∨i=K.n+1) R8 ((R10.set tid row).set (K.n+1) (.row true 0 1 [.int .i64 0,.int .i64 0])) :=
    (k9.mono fun i h => .inl h).trans ((k10.mono fun i h=>h.elim (fun h => .inr (.inl h.symm)) (fun h => .inr (.inr (.inl h)))).trans (kF10.mono fun i h => .inr (.inr (.inr h))))
   have kF:Same (fun i=>i=tid∨i=lq∨i=pq∨K6.n≤i∨i=K.n+1) K6 ((R10.set tid row).set (K.n+1) (.row true 0 1 [.int .i64 0,.int .i64 0])) :=
    (kR.mono fun i h=>h.elim).trans ((k7.mono fun i h => .inr (.inr (.inr (.inl (by omega))))).trans ((k8.mono fun i h=>h.elim (fun h => .inr (.inl h.symm)) (fun h => .inr (.inr (.inr (.inl (by omega)))))).trans
     (kF8.mono fun i h=>by rcases h with h | h | h | h | h<;>omega)))
   have kK:Same (fun i=>col i≠0) K K6:=(((k3.then_push _).then_push _).then k5 (fun i hi=>hi.elim)).then k6 (fun i hi => .inr (by omega))
   have kKF:Same (fun i=>col i≠0) K ((R10.set tid row).set (K.n+1) (.row true 0 1 [.int .i64 0,.int .i64 0])) :=
    kK.then kF (fun i hi=>by
     have:=hT.tc
     rcases hi with rfl | rfl | rfl | h | h
     · exact .inl (by omega)
     · exact .inl (by omega)
     · exact .inl (by omega)
     · exact .inr (by omega)
     · exact .inr (by omega))
   have nF:((R10.set tid row).set (K.n+1) (.row true 0 1 [.int .i64 0,.int .i64 0])).n=K6.n+4:=by show R10.n=_;simp at n10;omega
   refine⟨kKF,⟨hok.t,hok.s,hok.c,hok.w0,hok.w1,hok.r,by simp[procT];omega,by simp[procT];exact hok.l,by simp[procT];exact hok.p⟩,fun i=>if i=K6.n+1 then 5 else if i=K6.n+3 then 6 else if i=K2.n then 5 else col i,⟨nid,pid,rid,.slice (some ⟨K6.n+1,0,none⟩) (T.locals.length+1) (T.locals.length+1),.slice (some ⟨K6.n+3,0,none⟩) (T.params.length+1) (T.params.length+1),v3,v4,v5,?_⟩,fun i hi=>by dsimp only;rw[if_neg (by omega),if_neg (by omega),if_neg (by omega)]⟩
   have colv:∀ i,i<K.n→(if i=K6.n+1 then 5 else if i=K6.n+3 then 6 else if i=K2.n then 5 else col i)=col i:=fun i hi=>by rw[if_neg (by omega),if_neg (by omega),if_neg (by omega)]
   have mv:∀ {c:Nat},c≠0→c≠1→c≠5→c≠6→∀ i,col i=c→i<K6.n→(if i=K6.n+1 then 5 else if i=K6.n+3 then 6 else if i=K2.n then 5 else col i)=c∧¬(i=tid∨i=lq∨i=pq∨K6.n≤i∨i=K.n+1):=fun {c} h0 h1 h5 h6 i hi hlt=>by
    have hk:=hX i (by omega)
    refine⟨by rw[colv i hk];exact hi,fun e => ?_⟩
    have:=hT.tc
    rcases e with rfl | rfl | rfl | e | e
    all_goals omega
   subst hrow
   have hl0:=hT.lt
   have mvn:∀ i,col i≠0→col i≠1→col i≠5→col i≠6→¬(i=tid∨i=lq∨i=pq∨K6.n≤i∨i=K.n+1):=fun i h0 h1 h5 h6=>(mv h0 h1 h5 h6 i rfl (by have:=hX i h0;omega)).2
   refine⟨?_,by rw[colv _ (by omega)];exact hT.tc,kF.at hT6.nm (by simp) (mvn _ (by have:=hT.nc;omega) (by have:=hT.nc;omega) (by have:=hT.nc;omega) (by have:=hT.nc;omega)),by rw[colv _ (by omega)];exact hT.nc,
    kF.at hT6.pm (by simp) (mvn _ (by have:=hT.pc;omega) (by have:=hT.pc;omega) (by have:=hT.pc;omega) (by have:=hT.pc;omega)),by rw[colv _ (by omega)];exact hT.pc,
    kF.at hT6.rm (by simp) (mvn _ (by have:=hT.rc;omega) (by have:=hT.rc;omega) (by have:=hT.rc;omega) (by have:=hT.rc;omega)),by rw[colv _ (by omega)];exact hT.rc,?_,?_,
    repCel.G_move kF (mv (by omega) (by omega) (by omega) (by omega)) hT6.g3,repInt.G_move kF (mv (by omega) (by omega) (by omega) (by omega)) hT6.g4,repInt.G_move kF (mv (by omega) (by omega) (by omega) (by omega)) hT6.g5,
    fun i hi=>by rw[nF]at hi;rw[if_neg (by omega),if_neg (by omega),if_neg (by omega)];exact cz i (by omega)⟩
   · rw[Heap.get_set _ _ _ (by exact n10'),if_neg (by omega)]
     exact Heap.get_set_self _ _ t10
   · have:=repLoc.G_move kF8 (S':=fun i=>(if i=K6.n+1 then 5 else if i=K6.n+3 then 6 else if i=K2.n then 5 else col i)=5) (fun i hi hlt=>by
      rcases hi with (h | h) | h
      · have hk:=hX i (by omega)
        refine⟨by rw[colv i hk];exact h,fun e => ?_⟩
        have:=hT.tc
        rcases e with e | rfl | e | rfl | e<;>omega
      · subst h
        refine⟨by rw[if_neg (by omega),if_neg (by omega),if_pos rfl],fun e => ?_⟩
        rcases e with e | e | e | e | e<;>omega
      · subst h
        refine⟨by rw[if_pos rfl],fun e => ?_⟩
        rcases e with e | e | e | e | e<;>omega) G8
     simpa [procT] using this
   · have:=repInt.G_move kF10 (S':=fun i=>(if i=K6.n+1 then 5 else if i=K6.n+3 then 6 else if i=K2.n then 5 else col i)=6) (fun i hi hlt=>by
      rcases hi with h | h
      · have hk:=hX i (by omega)
        refine⟨by rw[colv i hk];exact h,fun e => ?_⟩
        have:=hT.tc
        rcases e with rfl | e<;>omega
      · subst h
        refine⟨by rw[if_neg (by omega),if_pos rfl],fun e => ?_⟩
        rcases e with e | e<;>omega) G10
     simpa [procT] using this
end
end Go.Vm.Scope
namespace Go.Vm
section
variable {α:Type}
theorem Rep.G_at (ρ:Rep α){H:Heap}{S:Nat→Prop}{v:Value}{l:List α}(h:ρ.G H S v l){k:Nat}(hk:k<l.length) :
  ∃ id tl cs,v = .slice (some ⟨id,0,none⟩) l.length l.length∧S id∧id<H.n∧H.get id = .row true tl ρ.k cs∧cs.length=l.length * ρ.k∧ρ.R H (fun i=>S i∧i≠id) l[k] ((cs.drop (k * ρ.k)).take ρ.k)∧k * ρ.k+ρ.k≤l.length * ρ.k:=by
 rcases h with⟨e1,e2⟩ | ⟨id,tl,cs,e1,_,e3,e4,e5⟩
 · rw[e2]at hk;cases hk
 · exact⟨id,tl,cs,e1,e3,Heap.lt_of_get e4 (by simp),e4,ρ.L_len e5,ρ.L_get k hk e5,by rw[← Nat.succ_mul];exact Nat.mul_le_mul_right _ hk⟩
end
theorem room6 (H:Heap):Same (fun _=>False) H ((((((H.push .dead).push .dead).push .dead).push .dead).push .dead).push .dead):=(((((Same.push _ _ _).then_push _).then_push _).then_push _).then_push _).then_push _
section
variable {α β γ:Type}
theorem app3 (ρ1:Rep α)(ρ2:Rep β)(ρ3:Rep γ){P:Program}{t1 t2 t3:TypeId}(T1:TF P t1 ρ1.k)(T2:TF P t2 ρ2.k)(T3:TF P t3 ρ3.k){H R:Heap}(hR:Same (fun _=>False) H R)(hn:R.n=H.n+6){S1 S2 S3:Nat→Prop}
  (hS1:∀ i,S1 i→i<H.n) (hS2:∀ i,S2 i→i<H.n) (hS3:∀ i,S3 i→i<H.n) (d12:∀ i,S1 i→¬S2 i) (d13:∀ i,S1 i→¬S3 i) (d23:∀ i,S2 i→¬S3 i)
  {v1 v2 v3:Value} {l1:List α} {l2:List β} {l3:List γ} (g1:ρ1.G H S1 v1 l1) (g2:ρ2.G H S2 v2 l2) (g3:ρ3.G H S3 v3 l3) {a1:α} {a2:β} {a3:γ} {c1 c2 c3:List Value}
  (r1:ρ1.R H (fun i=>S1 i∧¬vid v1 i) a1 c1) (r2:ρ2.R H (fun i=>S2 i∧¬vid v2 i) a2 c2) (r3:ρ3.R H (fun i=>S3 i∧¬vid v3 i) a3 c3) (h1:l1.length≤100000) (h2:l2.length≤100000) (h3:l3.length≤100000) :
  ∃ H2 H4 H6,exAppendAt P [t1,t1] v1 (.slice (some ⟨H.n,0,none⟩) 1 1) (H.n+1) (R.set H.n (.row true 0 ρ1.k c1))=some (.slice (some ⟨H.n+1,0,none⟩) (l1.length+1) (l1.length+1),H2) ∧
   exAppendAt P [t2,t2] v2 (.slice (some ⟨H.n+2,0,none⟩) 1 1) (H.n+3) (H2.set (H.n+2) (.row true 0 ρ2.k c2))=some (.slice (some ⟨H.n+3,0,none⟩) (l2.length+1) (l2.length+1),H4) ∧
   exAppendAt P [t3,t3] v3 (.slice (some ⟨H.n+4,0,none⟩) 1 1) (H.n+5) (H4.set (H.n+4) (.row true 0 ρ3.k c3))=some (.slice (some ⟨H.n+5,0,none⟩) (l3.length+1) (l3.length+1),H6) ∧
   Same (fun i=>S1 i) H H2∧Same (fun i=>S1 i∨S2 i) H H4∧Same (fun i=>S1 i∨S2 i∨S3 i) H H6∧H2.n=H.n+6∧H4.n=H.n+6∧H6.n=H.n+6 ∧
   ρ1.G H6 (fun i=>S1 i∨i=H.n+1) (.slice (some ⟨H.n+1,0,none⟩) (l1.length+1) (l1.length+1)) (l1++[a1]) ∧
   ρ2.G H6 (fun i=>S2 i∨i=H.n+3) (.slice (some ⟨H.n+3,0,none⟩) (l2.length+1) (l2.length+1)) (l2++[a2]) ∧
   ρ3.G H6 (fun i=>S3 i∨i=H.n+5) (.slice (some ⟨H.n+5,0,none⟩) (l3.length+1) (l3.length+1)) (l3++[a3]):=by
 have k1:Same (fun i=>i=H.n) R (R.set H.n (.row true 0 ρ1.k c1)):=Same.set (X:=fun i=>i=H.n) R (by omega) rfl _
 have v1S:∀ i,vid v1 i→S1 i:=fun i hi=>(ρ1.G_lt g1 hi).2
 have v2S:∀ i,vid v2 i→S2 i:=fun i hi=>(ρ2.G_lt g2 hi).2
 have v3S:∀ i,vid v3 i→S3 i:=fun i hi=>(ρ3.G_lt g3 hi).2
 have z1:∀ i,S1 i→i<H.n→S1 i∧¬i=H.n:=fun i hi hl=>⟨hi,by omega⟩
 have kR1:Same (fun i=>i=H.n) H (R.set H.n (.row true 0 ρ1.k c1)):=(hR.mono fun _ h=>h.elim).trans k1
 obtain⟨H2,e2,G2,q2,n2⟩:=ρ1.G_appAt T1 (ρ1.G_move kR1 z1 g1) (r:=H.n+1) (xid:=H.n) (xc:=1) (by simp;omega) (fun h=>by have:=hS1 _ h;omega) h1 (a:=a1) (c:=c1) (Heap.get_set_self _ _ (by omega)) (ρ1.move kR1 (fun i hi hl=>⟨hi,by omega⟩) _ _ r1)
 simp at n2
 have k2:Same (fun i=>i=H.n+2) H2 (H2.set (H.n+2) (.row true 0 ρ2.k c2)):=Same.set (X:=fun i=>i=H.n+2) H2 (by omega) rfl _
 have kH2:Same (fun i=>S1 i) H H2:=⟨by omega,fun i hi hx=>by
  rw[q2.get i (by simp;omega) (fun h=>h.elim (fun h=>hx (v1S i h)) (fun h=>by omega)),k1.get i (by omega) (by omega),hR.get i hi (fun h=>h)]⟩
 have kH2':Same (fun i=>S1 i∨i=H.n+2) H (H2.set (H.n+2) (.row true 0 ρ2.k c2)):=(kH2.mono fun _ h => .inl h).trans (k2.mono fun _ h => .inr h)
 obtain⟨H4,e4,G4,q4,n4⟩:=ρ2.G_appAt T2 (ρ2.G_move kH2' (S':=S2) (fun i hi hl=>⟨hi,fun h=>h.elim (fun h=>d12 i h hi) (fun h=>by omega)⟩) g2) (r:=H.n+3) (xid:=H.n+2) (xc:=1) (by simp;omega) (fun h=>by have:=hS2 _ h;omega) h2 (a:=a2) (c:=c2) (Heap.get_set_self _ _ (by omega)) (ρ2.move kH2' (fun i hi hl=>⟨hi,fun h=>h.elim (fun h=>d12 i h hi.1) (fun h=>by omega)⟩) _ _ r2)
 simp at n4
 have kH4:Same (fun i=>S1 i∨S2 i) H H4:=⟨by omega,fun i hi hx=>by
  rw[q4.get i (by simp;omega) (fun h=>h.elim (fun h=>hx (.inr (v2S i h))) (fun h=>by omega)),k2.get i (by omega) (by omega),kH2.get i hi (fun h=>hx (.inl h))]⟩
 have k4:Same (fun i=>i=H.n+4) H4 (H4.set (H.n+4) (.row true 0 ρ3.k c3)):=Same.set (X:=fun i=>i=H.n+4) H4 (by omega) rfl _
 have kH4':Same (fun i=>(S1 i∨S2 i)∨i=H.n+4) H (H4.set (H.n+4) (.row true 0 ρ3.k c3)):=(kH4.mono fun _ h => .inl h).trans (k4.mono fun _ h => .inr h)
 have no3:∀ i,S3 i→¬((S1 i∨S2 i)∨i=H.n+4):=fun i hi h=>by
  rcases h with (h | h) | h
  · exact d13 i h hi
  · exact d23 i h hi
  · have:=hS3 i hi;omega
 obtain⟨H6,e6,G6,q6,n6⟩:=ρ3.G_appAt T3 (ρ3.G_move kH4' (S':=S3) (fun i hi hl=>⟨hi,no3 i hi⟩) g3) (r:=H.n+5) (xid:=H.n+4) (xc:=1) (by simp;omega) (fun h=>by have:=hS3 _ h;omega) h3 (a:=a3) (c:=c3) (Heap.get_set_self _ _ (by omega)) (ρ3.move kH4' (fun i hi hl=>⟨hi,no3 i hi.1⟩) _ _ r3)
 simp at n6
 refine⟨H2,H4,H6,e2,e4,e6,kH2,kH4,⟨by omega,fun i hi hx=>by
  rw[q6.get i (by simp;omega) (fun h=>h.elim (fun h=>hx (.inr (.inr (v3S i h)))) (fun h=>by omega)),k4.get i (by omega) (by omega),kH4.get i hi (fun h=>hx (h.elim .inl (fun h => .inr (.inl h))))]⟩,by omega,by omega,by omega,?_,?_,G6⟩
 · have t:Same (fun i=>i=H.n+2∨vid v2 i∨i=H.n+3∨i=H.n+4∨vid v3 i∨i=H.n+5) H2 H6 :=
    (k2.mono fun _ h => .inl h).trans ((q4.mono fun _ h=>h.elim (fun h => .inr (.inl h)) (fun h => .inr (.inr (.inl h)))).trans ((k4.mono fun _ h => .inr (.inr (.inr (.inl h)))).trans (q6.mono fun _ h=>h.elim (fun h => .inr (.inr (.inr (.inr (.inl h))))) (fun h => .inr (.inr (.inr (.inr (.inr h))))))))
   refine ρ1.G_move t (fun i hi hl=>⟨hi,fun h => ?_⟩) G2
   have hi':i<H.n∨i=H.n+1:=hi.imp (hS1 i) id
   rcases h with h | h | h | h | h | h
   · omega
   · have:=hS2 i (v2S i h)
     rcases hi with hi | hi
     · exact d12 i hi (v2S i h)
     · omega
   · omega
   · omega
   · have:=hS3 i (v3S i h)
     rcases hi with hi | hi
     · exact d13 i hi (v3S i h)
     · omega
   · omega
 · have t:Same (fun i=>i=H.n+4∨vid v3 i∨i=H.n+5) H4 H6:=(k4.mono fun _ h => .inl h).trans (q6.mono fun _ h => .inr h)
   refine ρ2.G_move t (fun i hi hl=>⟨hi,fun h => ?_⟩) G4
   have hi':i<H.n∨i=H.n+3:=hi.imp (hS2 i) id
   rcases h with h | h | h
   · omega
   · have:=hS3 i (v3S i h)
     rcases hi with hi | hi
     · exact d23 i hi (v3S i h)
     · omega
   · omega
end
end Go.Vm
namespace Go.Vm.Scope
open Go Go.Proofs Go.Vm.Parse
attribute [local simp] repCells_succ writeAt rd_Fr toList_beq gpe gpn spe gse gsn ne_r0 ne_l0 le_s0 ne_r1 ne_l1 lt_s1 le_s1 ne_r2 ne_l2 lt_s2 le_s2 ne_r3 ne_l3 lt_s3 le_s3 ne_r4 ne_l4 lt_s4 le_s4 ne_r5 ne_l5 lt_s5 le_s5 ne_r6 ne_l6 lt_s6 le_s6 ne_r7 ne_l7 lt_s7 le_s7
def repStr:Rep ByteArray where
 k:=1
 R _ _ x cs:=cs=[.string x]
 len h:=by subst h;rfl
 move _ _ _ _ h:=h
def repNm:Rep Nm where
 k:=3
 R _ _ x cs:=cs=[.int .i64 x.kind,.int .i64 x.index,.int .i64 x.size]
 len h:=by subst h;rfl
 move _ _ _ _ h:=h
def repStrs:Rep (List ByteArray) where
 k:=1
 R H S l cs:=∃ v,cs=[v]∧repStr.G H S v l
 len h:=by obtain⟨v,rfl,_⟩:=h;rfl
 move k hs l cs h:=by
  obtain⟨v,e,g⟩:=h
  exact⟨v,e,repStr.G_move k hs g⟩
structure RT where
 names:List ByteArray
 means:List Nm
 procs:List ByteArray
 heads:List Int
 locals:List (List ByteArray)
 values:List Int
def rt6 (v1 v2 v3 v4 v5 v6:Value):List Value:=[v1,v2,v3,v4,v5,v6]
structure RRef (H:Heap)(col:Nat→Nat)(tid:Nat)(v1 v2 v3 v4 v5 v6:Value)(T:RT):Prop where
 obj:H.get tid = .row true 0 1 (rt6 v1 v2 v3 v4 v5 v6)
 tc:col tid=1
 g1:repStr.G H (fun i=>col i=2) v1 T.names
 g2:repNm.G H (fun i=>col i=3) v2 T.means
 g3:repStr.G H (fun i=>col i=4) v3 T.procs
 g4:repInt.G H (fun i=>col i=5) v4 T.heads
 g5:repStrs.G H (fun i=>col i=6) v5 T.locals
 g6:repInt.G H (fun i=>col i=7) v6 T.values
 top:∀ i,H.n≤i→col i=0
theorem RRef.keep {H H':Heap}{col:Nat→Nat}{tid:Nat}{v1 v2 v3 v4 v5 v6:Value}{T:RT}{X:Nat→Prop}(h:RRef H col tid v1 v2 v3 v4 v5 v6 T)(k:Same X H H')(hx:∀ i,X i→col i=0):RRef H' col tid v1 v2 v3 v4 v5 v6 T :=
 have mv:∀ {c:Nat},c≠0→∀ i,col i=c→i<H.n→col i=c∧¬X i:=fun hc i hi _=>⟨hi,fun e=>by have:=hx _ e;omega⟩
 ⟨k.at h.obj (by simp) (fun e=>by have:=hx _ e;have:=h.tc;omega),h.tc,repStr.G_move k (mv (by omega)) h.g1,repNm.G_move k (mv (by omega)) h.g2,repStr.G_move k (mv (by omega)) h.g3,repInt.G_move k (mv (by omega)) h.g4,
  repStrs.G_move k (mv (by omega)) h.g5,repInt.G_move k (mv (by omega)) h.g6,fun i hi=>h.top i (Nat.le_trans k.n hi)⟩
def clsP (k:Int):Int:=if k=4 then 3 else k
section
variable {E:Hooks} (hE:Plain E)
include hE
theorem c_hasText (args:List Value)(H:Heap):(run Tryz.prog E).call 47 args H=callB Tryz.prog E Tryz.f47 args H:=call_B Tryz.func47 rfl (by decide +kernel) (hE.no _ rfl rfl) args H
theorem c_rfault (args:List Value)(H:Heap):(run Tryz.prog E).call 48 args H=callB Tryz.prog E Tryz.f48 args H:=call_B Tryz.func48 rfl (by decide +kernel) (hE.no _ rfl rfl) args H
theorem c_rclass (args:List Value)(H:Heap):(run Tryz.prog E).call 49 args H=callB Tryz.prog E Tryz.f49 args H:=call_B Tryz.func49 rfl (by decide +kernel) (hE.no _ rfl rfl) args H
theorem c_rBuild (args:List Value)(H:Heap):(run Tryz.prog E).call 17 args H=callB Tryz.prog E Tryz.f17 args H:=call_B Tryz.func17 rfl (by decide +kernel) (hE.no _ rfl rfl) args H
theorem rclass_run (k:Int)(H:Heap):(run Tryz.prog E).call 49 [.int .i64 k] H=some (.val (.int .i64 (clsP k)),H):=by
 suffices key:Gives ((run Tryz.prog E).call 49 [.int .i64 k] H) fun o H'=>o = .val (.int .i64 (clsP k))∧H'=H by
  obtain⟨o,H',e,rfl,rfl⟩:=key
  exact e
 rw[c_rclass hE,callB,bodyOf]
 unfold clsP
 by_cases h:k=4
 · simp[Tryz.f49,h]
 · simp[Tryz.f49,h]
theorem rfault_run (c a:Int)(H:Heap):∃ H',(run Tryz.prog E).call 48 [.int .i64 c,.int .i64 a] H=some (.val (.agg ⟨[.int .i64 c,.int .i64 a]⟩),H')∧Same (fun _=>False) H H':=by
 suffices key:Gives ((run Tryz.prog E).call 48 [.int .i64 c,.int .i64 a] H) fun o H'=>o = .val (.agg ⟨[.int .i64 c,.int .i64 a]⟩)∧Same (fun _=>False) H H' by
  obtain⟨o,H',e,rfl,k⟩:=key
  exact⟨H',e,k⟩
 rw[c_rfault hE,callB,bodyOf]
 simp[Tryz.f48]
 exact Same.push _ _ _
def hasP (l:List ByteArray)(x:ByteArray):Bool:=l.any fun y=>decide (y=x)
theorem hasText_run {H:Heap}{S:Nat→Prop}{v:Value}{l:List ByteArray}(g:repStr.G H S v l)(hl:l.length≤1000000)(x:ByteArray):(run Tryz.prog E).call 47 [v,.string x] H=some (.val (.bool (hasP l x)),H):=by
 suffices key:Gives ((run Tryz.prog E).call 47 [v,.string x] H) fun o H'=>o = .val (.bool (hasP l x))∧H'=H by
  obtain⟨o,H',e,rfl,rfl⟩:=key
  exact e
 rw[c_hasText hE,callB,bodyOf]
 obtain⟨b,rfl⟩:=repStr.G_slice g
 simp[Tryz.f47]
 refine loop_mid2 (fun t K=>K=H∧hasP l x=false) (fun m t K=>K=H∧∃ k,k≤l.length∧m=l.length - k∧rd t 5 = .int .i64 k∧hasP l x=hasP (l.drop k) x) l.length ?_ ?_ ?_
 · exact⟨rfl,0,Nat.zero_le _,by simp,by simp,by simp⟩
 · rintro m t K hk ⟨rfl,k,hkl,rfl,g5,hh⟩
   have ht:t.length=18:=hk.1.trans (by simp[len_Bs])
   have hh0:=hk.all [0,1] (by decide +kernel)
   simp at hh0
   obtain⟨u0,u1⟩:=hh0
   rcases Nat.lt_or_ge k l.length with hlt | hge
   · obtain⟨id,tl,cs,e1,_,_,hrow,hcl,hget,hle⟩:=repStr.G_at g hlt
     cases e1
     have hd:l.drop k=l[k] :: l.drop (k+1):=List.drop_eq_getElem_cons hlt
     rw[hd]at hh
     generalize l[k]=y at *
     simp only[repStr,Nat.mul_one]at hget hcl hle
     have w1:IntKind.i64.wrap ((k:Int)+1)=(k:Int)+1:=wrap64 _ (by omega) (by omega)
     have hq:hasP (y :: l.drop (k+1)) x=(decide (y=x) || hasP (l.drop (k+1)) x):=by simp[hasP]
     rw[hq]at hh
     have hc1:cs[k]? = some (.string y):=by
      have:=congrArg (fun q=>q[0]?) hget
      simpa using this
     have hc2:cs[k]'(by omega) = .string y:=(List.getElem?_eq_some_iff.1 hc1).2
     by_cases hy:y=x
     · simp[hy]at hh
       subst hy
       simp[ht,u0,u1,g5,hlt,hrow,hcl,hget,hle,hc2,hh]
     · simp[hy]at hh
       simp[ht,u0,u1,g5,hlt,hrow,hcl,hget,hle,hc2,hy,w1]
       exact⟨l.length - (k+1),by omega,k+1,by omega,rfl,by simp[ht],hh⟩
   · simp[ht,u0,u1,g5,show ¬k<l.length by omega]
     rw[hh,List.drop_eq_nil_of_le hge]
     rfl
 · rintro t K hk ⟨rfl,hf⟩
   have ht:t.length=18:=hk.1.trans (by simp[len_Bs])
   simp[ht,hf]
end
def cntP (k:Int):List Nm→Nat
 | []=>0
 | m :: l=>(if clsP m.kind=clsP k then 1 else 0)+cntP k l
theorem cntP_snoc (k:Int)(m:Nm):∀ l:List Nm,cntP k (l++[m])=cntP k l+(if clsP m.kind=clsP k then 1 else 0)
 | []=>by simp[cntP]
 | a :: l=>by simp only[List.cons_append,cntP,cntP_snoc k m l];omega
theorem cntP_le (k:Int):∀ l:List Nm,cntP k l≤l.length
 | []=>Nat.le_refl _
 | a :: l=>by have:=cntP_le k l;simp only[cntP,List.length_cons];split<;>omega
def manyP (R:RT)(d:Dcl):Prop:=(d.kind=1∧6≤cntP d.kind R.means)∨(d.kind=2∧8≤cntP d.kind R.means)∨(clsP d.kind=3∧16≤cntP d.kind R.means)
def unitsB (d:Dcl):Prop:=(d.kind=1∧(d.n<1∨1000<d.n))∨(d.kind=2∧(d.n<0∨1000<d.n))
instance (R:RT) (d:Dcl):Decidable (manyP R d):=by unfold manyP;infer_instance
instance (d:Dcl):Decidable (unitsB d):=by unfold unitsB;infer_instance
def rdclT (R:RT)(d:Dcl):RT:={ R with names:=R.names++[d.name],means:=R.means++[⟨d.kind,cntP d.kind R.means,if clsP d.kind=3 then d.n else 0⟩],values:=R.values++[d.n] }
def rdclB (R:RT)(d:Dcl):Except (Int × Int) RT :=
 if hasP R.names d.name=true then .error (17,d.at_)else if manyP R d then .error (16,d.at_)else if unitsB d then .error (24,d.at_)else .ok (rdclT R d)
def rdeclsB (R:RT):List Dcl→Except (Int × Int) RT
 | [] => .ok R
 | d :: l => match rdclB R d with
  | .error e => .error e
  | .ok R'=>rdeclsB R' l
def rlocB (np:Nat):List ByteArray→Nat→List Idn→Except (Int × Int) (List ByteArray)
 | acc,_,[] => .ok acc
 | acc,i,x :: xs=>if hasP acc x.name=true then .error (17,x.at_)else if (i<np∧4≤i)∨8≤i then .error (16,x.at_)else rlocB np (acc++[x.name]) (i+1) xs
def rprcT (R:RT)(p:Prc)(l:List ByteArray):RT:={ R with procs:=R.procs++[p.name],heads:=R.heads++[(p.params.length:Int)],locals:=R.locals++[l] }
def rprcB (R:RT)(p:Prc):Except (Int × Int) RT :=
 if hasP R.names p.name=true∨hasP R.procs p.name=true then .error (17,p.at_)else if 12≤R.procs.length then .error (16,p.at_)
 else match rlocB p.params.length [] 0 (p.params++p.vars)with
  | .error e => .error e
  | .ok l => .ok (rprcT R p l)
def rprocsB (R:RT):List Prc→Except (Int × Int) RT
 | [] => .ok R
 | p :: l => match rprcB R p with
  | .error e => .error e
  | .ok R'=>rprocsB R' l
def rt0:RT:=⟨[],[],[],[],[],[]⟩
def rbuildB (s:Src):Except (Int × Int) RT:=match rdeclsB rt0 s.decls with
 | .error e => .error e
 | .ok R=>rprocsB R s.procs
def RetRB (H:Heap)(res:Except (Int × Int) RT)(o:Out)(H':Heap):Prop :=
 Same (fun _=>False) H H'∧match res with
 | .error (c,a)=>o = .val (.tuple #[.pointer none,.agg ⟨[.int .i64 c,.int .i64 a]⟩])
 | .ok R=>∃ (col:Nat→Nat) (tid:Nat) (v1 v2 v3 v4 v5 v6:Value),o = .val (.tuple #[.pointer (some ⟨tid,0,none⟩),.agg ⟨[.int .i64 0,.int .i64 0]⟩])∧RRef H' col tid v1 v2 v3 v4 v5 v6 R∧(∀ i,i<H.n→col i=0)
structure RAt (H K:Heap)(sc:List Value)(col:Nat→Nat)(T:RT)(nd np:Nat):Prop where
 same:Same (fun _=>False) H K
 box:K.get H.n = .row true 0 1 sc
 res:K.get (H.n+1) = .row true 0 1 [.int .i64 0,.int .i64 0]
 tab:∃ v1 v2 v3 v4 v5 v6,RRef K col (H.n+2) v1 v2 v3 v4 v5 v6 T∧(nd=0→v1=nl∧v2=nl∧v6=nl)∧(np=0→v3=nl∧v4=nl∧v5=nl)
 zero:∀ i,i≤H.n+1→col i=0
 n1:T.names.length=nd
 n2:T.means.length=nd
 n6:T.values.length=nd
 n3:T.procs.length=np
 n4:T.heads.length=np
 n5:T.locals.length=np
theorem RAt.keep {H K K':Heap}{sc:List Value}{col:Nat→Nat}{T:RT}{nd np:Nat}{X:Nat→Prop}(h:RAt H K sc col T nd np)(k:Same X K K')(hx:∀ i,X i→col i=0∧H.n+1<i):RAt H K' sc col T nd np:=by
 obtain⟨v1,v2,v3,v4,v5,v6,ht,hz⟩:=h.tab
 exact⟨h.same.then k (fun i hi => .inr (by have:=(hx i hi).2;omega)),k.at h.box (by simp) (fun e=>by have:=(hx _ e).2;omega),k.at h.res (by simp) (fun e=>by have:=(hx _ e).2;omega),⟨_,_,_,_,_,_,ht.keep k (fun i hi=>(hx i hi).1),hz⟩,h.zero,h.n1,h.n2,h.n6,h.n3,h.n4,h.n5⟩
theorem tf_str:TF Tryz.prog 65 1:=⟨_,_,_,by simp,by simp,by simp;rfl,by omega,by simp;rfl,rfl,by omega,rfl⟩
theorem tf_nms:TF Tryz.prog 112 3:=⟨_,_,_,by simp,by simp,by simp;rfl,by omega,by simp;rfl,rfl,by omega,rfl⟩
theorem tf_strs:TF Tryz.prog 113 1:=⟨_,_,_,by simp,by simp,by simp;rfl,by omega,by simp;rfl,rfl,by omega,rfl⟩
theorem q_rb0:quiet Tryz.prog (drawN Tryz.f17 0)=true:=by decide +kernel
theorem pl_rb1:planOf Tryz.prog (drawN Tryz.f17 1)=some [none,none,none,none,none,none,none,none,none,(some (0,1)),(some (0,1)),none,none]:=by decide +kernel
theorem no_rb2:planOf Tryz.prog (drawN Tryz.f17 2)=none:=by decide +kernel
theorem la_rb2:lateAt (drawN Tryz.f17 2)=none:=by decide +kernel
def pre_rb2:List Nat:=[0,0,0,0,8,24,56,0,128,384,1016,0,2048,6144,14336,0,32768,131064,0,262144,786432,1835008,0,4194304,12582912,33554424,67108857,134217721,268435449,536870907,1073741819,2147483643,4294967295,8589934591,17179869183]
theorem pr_rb2:preOf (drawN Tryz.f17 2)=pre_rb2:=by decide +kernel
theorem ok_rb2:freeOK (drawN Tryz.f17 2) pre_rb2=true:=by decide +kernel
theorem ne_rb2:needAll (drawN Tryz.f17 2)=6:=by decide +kernel
theorem q_rb3:quiet Tryz.prog (drawN Tryz.f17 3)=true:=by decide +kernel
theorem no_rb4:planOf Tryz.prog (drawN Tryz.f17 4)=none:=by decide +kernel
theorem la_rb4:lateAt (drawN Tryz.f17 4)=none:=by decide +kernel
def pre_rb4:List Nat:=[0,0,0,0,8,24,56,0,128,384,1016,0,2048,6144,14336,0,32768,98304,229376,524280,0,1048576,3145728,7340032,0,16777216,67108856,134217721,268435449,536870905,1073741819,2147483643,4294967291,8589934591,17179869183,34359738367]
theorem pr_rb4:preOf (drawN Tryz.f17 4)=pre_rb4:=by decide +kernel
theorem ok_rb4:freeOK (drawN Tryz.f17 4) pre_rb4=true:=by decide +kernel
theorem ne_rb4:needAll (drawN Tryz.f17 4)=6:=by decide +kernel
def RDeclI (H:Heap)(sc:List Value)(ds:List Dcl)(res:Except (Int × Int) RT)(m:Nat)(t:List Value)(K:Heap):Prop :=
 ∃ k T col,k≤ds.length∧m=ds.length - k∧rd t 5 = .int .i64 k∧rdeclsB T (ds.drop k)=res∧RAt H K sc col T k 0
def RDeclJ (H:Heap)(sc:List Value)(res:Except (Int × Int) RT)(nd:Nat)(t:List Value)(K:Heap):Prop :=
 ∃ T col,res = .ok T∧RAt H K sc col T nd 0∧t.length=301∧rd t 1 = .pointer (some ⟨H.n,0,none⟩)∧rd t 3 = .pointer (some ⟨H.n+1,0,none⟩)∧rd t 4 = .pointer (some ⟨H.n+2,0,none⟩)
def RProcI (H:Heap)(sc:List Value)(ps:List Prc)(res:Except (Int × Int) RT)(nd:Nat)(m:Nat)(t:List Value)(K:Heap):Prop :=
 ∃ k T col,k≤ps.length∧m=ps.length - k∧rd t 10 = .int .i64 k∧rprocsB T (ps.drop k)=res∧RAt H K sc col T nd k
def RProcJ (H:Heap)(sc:List Value)(res:Except (Int × Int) RT)(t:List Value)(K:Heap):Prop :=
 ∃ T' col' nd np,res = .ok T'∧RAt H K sc col' T' nd np∧t.length=301∧rd t 3 = .pointer (some ⟨H.n+1,0,none⟩)∧rd t 4 = .pointer (some ⟨H.n+2,0,none⟩)
def CntI (K0:Heap)(kind:Int)(ms:List Nm)(m:Nat)(t:List Value)(K:Heap):Prop :=
 K=K0∧∃ k c:Nat,k≤ms.length∧m=ms.length - k∧rd t 8 = .int .i64 k∧rd t 7 = .int .i64 c∧c+cntP kind (ms.drop k)=cntP kind ms
def CntJ (K0:Heap)(kind:Int)(ms:List Nm)(t:List Value)(K:Heap):Prop:=K=K0∧rd t 7 = .int .i64 (cntP kind ms)
structure RSl (H:Heap)(k dn:Nat)(c:Nat)(t:List Value):Prop where
 len:t.length=301
 t1:rd t 1 = .pointer (some ⟨H.n,0,none⟩)
 t3:rd t 3 = .pointer (some ⟨H.n+1,0,none⟩)
 t4:rd t 4 = .pointer (some ⟨H.n+2,0,none⟩)
 t5:rd t 5 = .int .i64 k
 t6:rd t 6 = .pointer (some ⟨dn,0,none⟩)
 t7:rd t 7 = .int .i64 c
theorem RSl.of {H:Heap}{k dn c:Nat}{t t':List Value}(h:RSl H k dn c t)(hl:t'.length=t.length)(h2:AllRd t' t [1,3,4,5,6,7]):RSl H k dn c t':=by
 simp at h2
 exact⟨hl.trans h.len,h2.1.trans h.t1,h2.2.1.trans h.t3,h2.2.2.1.trans h.t4,h2.2.2.2.1.trans h.t5,h2.2.2.2.2.1.trans h.t6,h2.2.2.2.2.2.trans h.t7⟩
def RLocI (H K1:Heap)(k pn np:Nat)(ids:List Idn)(res:Except (Int × Int) (List ByteArray))(m:Nat)(t:List Value)(K:Heap):Prop :=
 Same (fun _=>False) K1 K∧∃ j acc v,j≤ids.length∧m=ids.length - j∧rd t 13 = .int .i64 j∧rd t 12=v∧repStr.G K (fun i=>K1.n≤i) v acc∧acc.length=j∧rlocB np acc j (ids.drop j)=res
def RLocJ (H K1:Heap)(res:Except (Int × Int) (List ByteArray))(t:List Value)(K:Heap):Prop :=
 Same (fun _=>False) K1 K∧∃ acc v,res = .ok acc∧rd t 12=v∧repStr.G K (fun i=>K1.n≤i) v acc
structure PSl (H:Heap)(k pn:Nat)(t:List Value):Prop where
 len:t.length=301
 t1:rd t 1 = .pointer (some ⟨H.n,0,none⟩)
 t3:rd t 3 = .pointer (some ⟨H.n+1,0,none⟩)
 t4:rd t 4 = .pointer (some ⟨H.n+2,0,none⟩)
 t10:rd t 10 = .int .i64 k
 t11:rd t 11 = .pointer (some ⟨pn,0,none⟩)
theorem PSl.of {H:Heap}{k dn:Nat}{t t':List Value}(h:PSl H k dn t)(hl:t'.length=t.length)(h2:AllRd t' t [1,3,4,10,11]):PSl H k dn t':=by
 simp at h2
 exact⟨hl.trans h.len,h2.1.trans h.t1,h2.2.1.trans h.t3,h2.2.2.1.trans h.t4,h2.2.2.2.1.trans h.t10,h2.2.2.2.2.trans h.t11⟩
section
variable {E:Hooks} (hE:Plain E)
include hE
theorem rbuild_run {H:Heap}{s:Src}{sc:List Value}(hs:RSrc H (fun i=>i<H.n) s sc)(hk4:∀ d∈s.decls,1≤d.kind∧d.kind≤4)(hq:∀ p∈s.procs,p.params.length+p.vars.length≤100000)(hl:s.decls.length≤100000)(hl2:s.procs.length≤100000) :
  Gives ((run Tryz.prog E).call 17 [.agg ⟨sc⟩] H) (RetRB H (rbuildB s)):=by
 obtain⟨w1,w2,w3,w4,rfl,hd,hp,hi,hb⟩:=hs
 obtain⟨b1,rfl⟩:=repDcl.G_slice hd
 obtain⟨b2,rfl⟩:=repPrc.G_slice hp
 obtain⟨b3,rfl⟩:=repItm.G_slice hi
 obtain⟨b4,rfl⟩:=repStm.G_slice hb
 generalize hsc:sr5 s.name (.slice b1 s.decls.length s.decls.length) (.slice b2 s.procs.length s.procs.length) (.slice b3 s.claims.length s.claims.length) (.slice b4 s.body.length s.body.length)=sc at *
 have hsc':=hsc
 simp only[sr5]at hsc'
 rw[c_rBuild hE,callB,bodyOf]
 subst hsc'
 simp[Tryz.f17]
 refine loop_mid2 (RDeclJ H (sr5 s.name (.slice b1 s.decls.length s.decls.length) (.slice b2 s.procs.length s.procs.length) (.slice b3 s.claims.length s.claims.length) (.slice b4 s.body.length s.body.length)) (rdeclsB rt0 s.decls) s.decls.length)
  (RDeclI H (sr5 s.name (.slice b1 s.decls.length s.decls.length) (.slice b2 s.procs.length s.procs.length) (.slice b3 s.claims.length s.claims.length) (.slice b4 s.body.length s.body.length)) s.decls (rdeclsB rt0 s.decls)) s.decls.length ?_ ?_ ?_
 · refine⟨0,rt0,fun i=>if i=H.n+2 then 1 else 0,Nat.zero_le _,by simp,by simp,by simp,?_⟩
   refine⟨((Same.push _ _ _).then_push _).then_push _,by simp[sr5,Heap.get_push],by simp[Heap.get_push],⟨nl,nl,nl,nl,nl,nl,?_,fun _=>⟨rfl,rfl,rfl⟩,fun _=>⟨rfl,rfl,rfl⟩⟩,fun i hi=>by rw[if_neg (by omega)],rfl,rfl,rfl,rfl,rfl,rfl⟩
   exact⟨by simp[Heap.get_push,rt6],by simp,repStr.G_nil _ _,repNm.G_nil _ _,repStr.G_nil _ _,repInt.G_nil _ _,repStrs.G_nil _ _,repInt.G_nil _ _,fun i hi=>by simp at hi;rw[if_neg (by omega)]⟩
 · rintro m t K hk ⟨k,T,col,hkl,rfl,g5,hres,hB⟩
   have ht:t.length=301:=hk.1.trans (by simp[len_Bs])
   have hh:=hk.all [1,3,4] (by decide +kernel)
   simp at hh
   obtain⟨u1,u3,u4⟩:=hh
   have g0:=hB.box
   have gr:=hB.res
   obtain⟨x1,x2,x3,x4,x5,x6,hT,_⟩:=hB.tab
   have nK:=hB.same.n
   have trK:H.n+1<K.n:=Heap.lt_of_get gr (by simp)
   have ttK:H.n+2<K.n:=Heap.lt_of_get hT.obj (by simp)
   simp only[sr5]at g0
   rcases Nat.lt_or_ge k s.decls.length with hlt | hge
   · obtain⟨id,tl,cs,e1,hid,_,hrow,hcl,hget,hle⟩:=repDcl.G_at hd hlt
     cases e1
     have hrK:=hB.same.at hrow (by simp) (fun h=>h)
     have hdrop:s.decls.drop k=s.decls[k] :: s.decls.drop (k+1):=List.drop_eq_getElem_cons hlt
     have hdk4:=hk4 s.decls[k] (List.getElem_mem hlt)
     generalize hdk:s.decls[k]=d at *
     rw[hdrop,rdeclsB]at hres
     simp only[repDcl,dsc]at hget hcl hle
     have hB1:=hB.keep (Same.push (fun _=>False) K (.row true 0 1 (dsc d.kind d.at_ d.name d.n))) (fun _ h=>h.elim)
     simp only[dsc]at hB1
     obtain⟨y1,y2,y3,y4,y5,y6,hT1,hz1,hz2⟩:=hB1.tab
     have gt1:=hT1.obj
     have gr1:=hB1.res
     have gd1:(K.push (.row true 0 1 (dsc d.kind d.at_ d.name d.n))).get K.n = .row true 0 1 (dsc d.kind d.at_ d.name d.n):=Heap.get_push_self _ _
     have eT:=hasText_run hE hT1.g1 (by have:=hB.n1;omega) d.name
     have w1:IntKind.i64.wrap ((k:Int)+1)=(k:Int)+1:=wrap64 _ (by omega) (by omega)
     simp only[dsc,rt6]at eT gt1 gr1 gd1
     simp[ht,u1,u3,u4,g5,g0,hlt,hrK,hcl,hle,hget]
     have n1:(K.push (.row true 0 1 [.int .i64 d.kind,.int .i64 d.at_,.string d.name,.int .i64 d.n])).n=K.n+1:=rfl
     generalize hK1:K.push (.row true 0 1 [.int .i64 d.kind,.int .i64 d.at_,.string d.name,.int .i64 d.n])=K1 at *
     refine region_quiet (by exact q_rb0) ?_
     simp[ht,u1,u3,u4,gt1,gd1,eT]
     by_cases c1:hasP T.names d.name=true
     · unfold rdclB at hres
       rw[if_pos c1]at hres
       unfold rbuildB
       rw[← hres]
       obtain⟨K2,eF,kF⟩:=rfault_run hE 17 d.at_ K1
       have gr2:=kF.at gr1 (by simp) (fun h=>h)
       have tr2:=Heap.lt_of_get gr2 (by simp)
       simp[ht,u1,u3,u4,c1,gd1,eF,gr2,tr2]
       exact⟨(hB1.same.trans kF).then_set tr2 (.inr (by omega)) _,rfl⟩
     have c1':hasP T.names d.name=false:=by simpa using c1
     obtain⟨y2b,ey2⟩:=repNm.G_slice hT1.g2
     subst ey2
     simp[ht,u1,u3,u4,c1']
     have nm:=hB1.n2
     refine loop_mid2 (CntJ K1 d.kind T.means) (CntI K1 d.kind T.means) T.means.length ?_ ?_ ?_
     · exact⟨rfl,0,0,Nat.zero_le _,by simp,by simp[ht],by simp[ht],by simp⟩
     · rintro m t1 K2 hk1 ⟨rfl,j,c,hj,rfl,g8,g7,hc⟩
       have ht1:t1.length=301:=hk1.1.trans (by simp[ht])
       have hh1:=hk1.all [4,6] (by decide +kernel)
       simp[ht,u4]at hh1
       obtain⟨z4,z6⟩:=hh1
       rcases Nat.lt_or_ge j T.means.length with hlt1 | hge1
       · obtain⟨mid,mtl,mcs,me,_,_,mrow,mcl,mget,mle⟩:=repNm.G_at hT1.g2 hlt1
         cases me
         have mdrop:T.means.drop j=T.means[j] :: T.means.drop (j+1):=List.drop_eq_getElem_cons hlt1
         rw[mdrop,cntP]at hc
         generalize T.means[j]=mm at *
         simp only[repNm]at mget mcl mle mrow
         have hm0:mcs[j * 3]? = some (.int .i64 mm.kind):=by
          have:=congrArg (fun q=>q[0]?) mget
          simpa using this
         have hm1:mcs[j * 3]'(by omega) = .int .i64 mm.kind:=(List.getElem?_eq_some_iff.1 hm0).2
         have w2:IntKind.i64.wrap ((j:Int)+1)=(j:Int)+1:=wrap64 _ (by omega) (by omega)
         have w3:IntKind.i64.wrap ((c:Int)+1)=(c:Int)+1:=wrap64 _ (by omega) (by have:=cntP_le d.kind T.means;omega)
         have ec:=fun k H=>rclass_run hE k H
         simp[ht1,z4,z6,g8,g7,gt1,hlt1]
         refine region_plan (by exact pl_rb1) ?_
         simp[ht1,z4,z6,g8,g7,gt1,hlt1,mrow,mcl,mle,hm0,hm1,gd1,ec]
         by_cases hcl:clsP mm.kind=clsP d.kind
         · rw[if_pos hcl]at hc
           simp[hcl,ht1,z4,z6,g8,g7,w2,w3]
           exact⟨T.means.length - (j+1),by omega,rfl,j+1,c+1,by omega,rfl,by simp[ht1],by simp[ht1],by omega⟩
         · rw[if_neg hcl]at hc
           simp[hcl,ht1,z4,z6,g8,g7,w2]
           exact⟨T.means.length - (j+1),by omega,rfl,j+1,c,by omega,rfl,by simp[ht1],by simp[ht1,g7],by omega⟩
       · have:j=T.means.length:=by omega
         subst this
         simp[ht1,z4,z6,g8,g7,gt1]
         rw[List.drop_length,cntP]at hc
         exact⟨rfl,by simp[ht1,g7];omega⟩
     · rintro t1 K2 hk1 ⟨rfl,g7⟩
       have ht1:t1.length=301:=hk1.1.trans (by simp[ht])
       have hh1:=hk1.all [1,3,4,5,6] (by decide +kernel)
       simp[ht,u1,u3,u4,g5]at hh1
       obtain⟨z1,z3,z4,z5,z6⟩:=hh1
       have sl:RSl H k K.n (cntP d.kind T.means) t1:=⟨ht1,z1,z3,z4,z5,z6,g7⟩
       have ec:=fun k H=>rclass_run hE k H
       have cle:=cntP_le d.kind T.means
       have tK2:K.n<K2.n:=by omega
       have r16:manyP T d→rdeclsB rt0 s.decls = .error (16,d.at_):=fun h=>by rw[← hres];unfold rdclB;rw[if_neg c1,if_pos h]
       have r24:¬manyP T d→unitsB d→rdeclsB rt0 s.decls = .error (24,d.at_):=fun h h'=>by rw[← hres];unfold rdclB;rw[if_neg c1,if_neg h,if_pos h']
       have rok:¬manyP T d→¬unitsB d→rdeclsB (rdclT T d) (s.decls.drop (k+1))=rdeclsB rt0 s.decls:=fun h h'=>by rw[← hres];unfold rdclB;rw[if_neg c1,if_neg h,if_neg h']
       rw[code_seq,ends_then]
       refine ends_cut2 (fun t K'=>K'=K2∧RSl H k K.n (cntP d.kind T.means) t∧¬manyP T d) ?_ ?_
       · have go:∀ (L:Nat),(d.kind=1→L=6)→(d.kind=2→L=8)→(clsP d.kind=3→L=16)→(L≤cntP d.kind T.means→manyP T d)∧(¬L≤cntP d.kind T.means→¬manyP T d):=fun L h1 h2 h3=>by
          unfold manyP
          have:d.kind=1∨d.kind=2∨clsP d.kind=3:=by unfold clsP;split<;>omega
          have x1:d.kind=1→clsP d.kind=1:=fun h=>by rw[h];rfl
          have x2:d.kind=2→clsP d.kind=2:=fun h=>by rw[h];rfl
          refine⟨fun h => ?_,fun h => ?_⟩
          · rcases this with e | e | e
            · exact .inl ⟨e,by have:=h1 e;omega⟩
            · exact .inr (.inl ⟨e,by have:=h2 e;omega⟩)
            · exact .inr (.inr ⟨e,by have:=h3 e;omega⟩)
          · rintro (⟨e,q⟩ | ⟨e,q⟩ | ⟨e,q⟩)
            · have:=h1 e;omega
            · have:=h2 e;omega
            · have:=h3 e;omega
         obtain⟨K3,eF,kF⟩:=rfault_run hE 16 d.at_ K2
         have gr3:=kF.at gr1 (by simp) (fun h=>h)
         have tr3:=Heap.lt_of_get gr3 (by simp)
         have kE:Same (fun _=>False) H (K3.set (H.n+1) (.row true 0 1 [.int .i64 16,.int .i64 d.at_])):=(hB1.same.trans kF).then_set tr3 (.inr (by omega)) _
         have fin:∀ t:List Value,RSl H k K.n (cntP d.kind T.means) t→¬manyP T d→K2=K2∧RSl H k K.n (cntP d.kind T.means) t∧¬manyP T d:=fun t h1 h2=>⟨rfl,h1,h2⟩
         rcases (show d.kind=1∨d.kind=2∨d.kind=3∨d.kind=4 by omega)with hk | hk | hk | hk
         · have gg:=go 6 (fun _=>rfl) (fun h=>by omega) (fun h=>by rw[hk]at h;exact absurd h (by decide))
           by_cases hm:6≤cntP d.kind T.means
           · have hm':(6:Int)≤cntP d.kind T.means:=by omega
             unfold rbuildB
             rw[r16 (gg.1 hm)]
             simp only[hk]at gd1 g7 sl hm'
             simp[sl.len,sl.t1,sl.t3,sl.t4,sl.t5,sl.t6,sl.t7,gd1,hm',eF,gr3,tr3,ec,clsP]
             exact⟨kE,rfl⟩
           · have hm':¬(6:Int)≤cntP d.kind T.means:=by omega
             have nm:=gg.2 hm
             simp only[hk]at gd1 g7 hm'
             have sl':=sl
             simp only[hk]at sl'
             simp[sl'.len,sl'.t1,sl'.t3,sl'.t4,sl'.t5,sl'.t6,sl'.t7,gd1,hm',ec,clsP]
             exact⟨sl.of (by simp) (by simp[sl.len]),nm⟩
         · have gg:=go 8 (fun h=>by omega) (fun _=>rfl) (fun h=>by rw[hk]at h;exact absurd h (by decide))
           by_cases hm:8≤cntP d.kind T.means
           · have hm':(8:Int)≤cntP d.kind T.means:=by omega
             unfold rbuildB
             rw[r16 (gg.1 hm)]
             simp only[hk]at gd1 g7 sl hm'
             simp[sl.len,sl.t1,sl.t3,sl.t4,sl.t5,sl.t6,sl.t7,gd1,hm',eF,gr3,tr3,ec,clsP]
             exact⟨kE,rfl⟩
           · have hm':¬(8:Int)≤cntP d.kind T.means:=by omega
             have nm:=gg.2 hm
             simp only[hk]at gd1 g7 hm'
             have sl':=sl
             simp only[hk]at sl'
             simp[sl'.len,sl'.t1,sl'.t3,sl'.t4,sl'.t5,sl'.t6,sl'.t7,gd1,hm',ec,clsP]
             exact⟨sl.of (by simp) (by simp[sl.len]),nm⟩
         · have gg:=go 16 (fun h=>by omega) (fun h=>by omega) (fun _=>rfl)
           by_cases hm:16≤cntP d.kind T.means
           · have hm':(16:Int)≤cntP d.kind T.means:=by omega
             unfold rbuildB
             rw[r16 (gg.1 hm)]
             simp only[hk]at gd1 g7 sl hm'
             simp[sl.len,sl.t1,sl.t3,sl.t4,sl.t5,sl.t6,sl.t7,gd1,hm',eF,gr3,tr3,ec,clsP]
             exact⟨kE,rfl⟩
           · have hm':¬(16:Int)≤cntP d.kind T.means:=by omega
             have nm:=gg.2 hm
             simp only[hk]at gd1 g7 hm'
             have sl':=sl
             simp only[hk]at sl'
             simp[sl'.len,sl'.t1,sl'.t3,sl'.t4,sl'.t5,sl'.t6,sl'.t7,gd1,hm',ec,clsP]
             exact⟨sl.of (by simp) (by simp[sl.len]),nm⟩
         · have gg:=go 16 (fun h=>by omega) (fun h=>by omega) (fun _=>rfl)
           by_cases hm:16≤cntP d.kind T.means
           · have hm':(16:Int)≤cntP d.kind T.means:=by omega
             unfold rbuildB
             rw[r16 (gg.1 hm)]
             simp only[hk]at gd1 g7 sl hm'
             simp[sl.len,sl.t1,sl.t3,sl.t4,sl.t5,sl.t6,sl.t7,gd1,hm',eF,gr3,tr3,ec,clsP]
             exact⟨kE,rfl⟩
           · have hm':¬(16:Int)≤cntP d.kind T.means:=by omega
             have nm:=gg.2 hm
             simp only[hk]at gd1 g7 hm'
             have sl':=sl
             simp only[hk]at sl'
             simp[sl'.len,sl'.t1,sl'.t3,sl'.t4,sl'.t5,sl'.t6,sl'.t7,gd1,hm',ec,clsP]
             exact⟨sl.of (by simp) (by simp[sl.len]),nm⟩
       rintro t2 K2 ⟨rfl,sl2,nmany⟩
       rw[code_seq,ends_then]
       refine ends_cut2 (fun t K'=>K'=K2∧RSl H k K.n (cntP d.kind T.means) t∧¬unitsB d) ?_ ?_
       · obtain⟨K3,eF,kF⟩:=rfault_run hE 24 d.at_ K2
         have gr3:=kF.at gr1 (by simp) (fun h=>h)
         have tr3:=Heap.lt_of_get gr3 (by simp)
         have kE:Same (fun _=>False) H (K3.set (H.n+1) (.row true 0 1 [.int .i64 24,.int .i64 d.at_])):=(hB1.same.trans kF).then_set tr3 (.inr (by omega)) _
         rcases (show d.kind=1∨d.kind=2∨d.kind=3∨d.kind=4 by omega)with hk | hk | hk | hk
         · by_cases q1:d.n<1
           · unfold rbuildB
             rw[r24 nmany (.inl ⟨hk,.inl q1⟩)]
             simp only[hk]at gd1 sl2
             simp[sl2.len,sl2.t1,sl2.t3,sl2.t4,sl2.t5,sl2.t6,sl2.t7,gd1,q1,eF,gr3,tr3]
             exact⟨kE,rfl⟩
           by_cases q2:1000<d.n
           · unfold rbuildB
             rw[r24 nmany (.inl ⟨hk,.inr q2⟩)]
             simp only[hk]at gd1 sl2
             simp[sl2.len,sl2.t1,sl2.t3,sl2.t4,sl2.t5,sl2.t6,sl2.t7,gd1,q1,q2,eF,gr3,tr3]
             exact⟨kE,rfl⟩
           · have nu:¬unitsB d:=fun h=>by unfold unitsB at h;omega
             have sl':=sl2
             simp only[hk]at gd1 sl'
             simp[sl'.len,sl'.t1,sl'.t3,sl'.t4,sl'.t5,sl'.t6,sl'.t7,gd1,q1,q2]
             exact⟨sl2.of (by simp) (by simp[sl2.len]),nu⟩
         · by_cases q1:d.n<0
           · unfold rbuildB
             rw[r24 nmany (.inr ⟨hk,.inl q1⟩)]
             simp only[hk]at gd1 sl2
             simp[sl2.len,sl2.t1,sl2.t3,sl2.t4,sl2.t5,sl2.t6,sl2.t7,gd1,q1,eF,gr3,tr3]
             exact⟨kE,rfl⟩
           by_cases q2:1000<d.n
           · unfold rbuildB
             rw[r24 nmany (.inr ⟨hk,.inr q2⟩)]
             simp only[hk]at gd1 sl2
             simp[sl2.len,sl2.t1,sl2.t3,sl2.t4,sl2.t5,sl2.t6,sl2.t7,gd1,q1,q2,eF,gr3,tr3]
             exact⟨kE,rfl⟩
           · have nu:¬unitsB d:=fun h=>by unfold unitsB at h;omega
             have sl':=sl2
             simp only[hk]at gd1 sl'
             simp[sl'.len,sl'.t1,sl'.t3,sl'.t4,sl'.t5,sl'.t6,sl'.t7,gd1,q1,q2]
             exact⟨sl2.of (by simp) (by simp[sl2.len]),nu⟩
         · have nu:¬unitsB d:=fun h=>by unfold unitsB at h;omega
           have sl':=sl2
           simp only[hk]at gd1 sl'
           simp[sl'.len,sl'.t1,sl'.t3,sl'.t4,sl'.t5,sl'.t6,sl'.t7,gd1]
           exact⟨sl2.of (by simp) (by simp[sl2.len]),nu⟩
         · have nu:¬unitsB d:=fun h=>by unfold unitsB at h;omega
           have sl':=sl2
           simp only[hk]at gd1 sl'
           simp[sl'.len,sl'.t1,sl'.t3,sl'.t4,sl'.t5,sl'.t6,sl'.t7,gd1]
           exact⟨sl2.of (by simp) (by simp[sl2.len]),nu⟩
       rintro t3 K2 ⟨rfl,sl3,nun⟩
       rw[code_seq,ends_then]
       refine ends_cut2 (fun t K'=>K'=K2.push (.row true 0 1 [.int .i64 d.kind,.int .i64 (cntP d.kind T.means),.int .i64 0])∧RSl H k K.n (cntP d.kind T.means) t∧rd t 9 = .pointer (some ⟨K2.n,0,none⟩)) ?_ ?_
       · simp[sl3.len,sl3.t1,sl3.t3,sl3.t4,sl3.t5,sl3.t6,sl3.t7,gd1]
         exact sl3.of (by simp) (by simp[sl3.len])
       rintro t4 _ ⟨rfl,sl4,s9⟩
       rw[code_seq,ends_then]
       refine ends_cut2 (fun t K'=>K'=K2.push (.row true 0 1 [.int .i64 d.kind,.int .i64 (cntP d.kind T.means),.int .i64 (if clsP d.kind=3 then d.n else 0)])∧RSl H k K.n (cntP d.kind T.means) t∧rd t 9 = .pointer (some ⟨K2.n,0,none⟩)) ?_ ?_
       · have gd2:∀ o:AObj,(K2.push o).get K.n=K2.get K.n:=fun o=>by rw[Heap.get_push,if_neg (by omega)]
         by_cases hc3:clsP d.kind=3
         · simp[sl4.len,sl4.t1,sl4.t3,sl4.t4,sl4.t5,sl4.t6,sl4.t7,s9,gd1,gd2,ec,hc3]
           exact sl4.of (by simp) (by simp[sl4.len])
         · simp[sl4.len,sl4.t1,sl4.t3,sl4.t4,sl4.t5,sl4.t6,sl4.t7,s9,gd1,gd2,ec,hc3]
           exact sl4.of (by simp) (by simp[sl4.len])
       rintro t5 _ ⟨rfl,sl5,s9⟩
       have gt0:=hT.tc
       have cz:∀ i,K.n≤i→col i=0:=hT.top
       have hX:∀ i,col i≠0→i<K.n:=fun i hi=>by
        rcases Nat.lt_or_ge i K.n with h | h
        · exact h
        · exact absurd (cz i h) hi
       have kM:Same (fun _=>False) K2 (K2.push (.row true 0 1 [.int .i64 d.kind,.int .i64 (cntP d.kind T.means),.int .i64 (if clsP d.kind=3 then d.n else 0)])):=Same.push _ _ _
       have hB3:=hB1.keep kM (fun _ h=>h.elim)
       have hT3:=hT1.keep kM (fun _ h=>h.elim)
       have gm3:(K2.push (.row true 0 1 [.int .i64 d.kind,.int .i64 (cntP d.kind T.means),.int .i64 (if clsP d.kind=3 then d.n else 0)])).get K2.n=_:=Heap.get_push_self _ _
       have gd3:=kM.at gd1 (by simp) (fun h=>h)
       have n3:(K2.push (.row true 0 1 [.int .i64 d.kind,.int .i64 (cntP d.kind T.means),.int .i64 (if clsP d.kind=3 then d.n else 0)])).n=K2.n+1:=rfl
       generalize hK3:K2.push (.row true 0 1 [.int .i64 d.kind,.int .i64 (cntP d.kind T.means),.int .i64 (if clsP d.kind=3 then d.n else 0)])=K3 at *
       have gt3:=hT3.obj
       simp only[rt6]at gt3
       have kR:Same (fun _=>False) K3 (Heap.room 6 K3):=room6 K3
       have nR:(Heap.room 6 K3).n=K3.n+6:=rfl
       obtain⟨H2,H4,H6,e2,e4,e6,q2,q4,q6,m2,m4,m6,G1,G2,G6⟩:=app3 repStr repNm repInt tf_str tf_nms tf_int kR nR (S1:=fun i=>col i=2) (S2:=fun i=>col i=3) (S3:=fun i=>col i=7)
        (fun i h=>by have:=hX i (by omega);omega) (fun i h=>by have:=hX i (by omega);omega) (fun i h=>by have:=hX i (by omega);omega) (fun i h=>by omega) (fun i h=>by omega) (fun i h=>by omega)
        hT3.g1 hT3.g2 hT3.g6 (a1:=d.name) (a2:=⟨d.kind,cntP d.kind T.means,if clsP d.kind=3 then d.n else 0⟩) (a3:=d.n) rfl rfl rfl (by have:=hB.n1;omega) (by have:=hB.n2;omega) (by have:=hB.n6;omega)
       simp only[repStr,repNm,repInt]at e2 e4 e6
       refine region_free (by exact no_rb2) (by exact la_rb2) (by exact pr_rb2) (by exact ok_rb2) (by exact ne_rb2) ?_
       generalize hR:Heap.room 6 K3=R at *
       have gtR:R.get (H.n+2)=_:=kR.at gt3 (by simp) (fun h=>h)
       have gdR:R.get K.n=_:=kR.at gd3 (by simp) (fun h=>h)
       have gt2:H2.get (H.n+2)=_:=q2.at gt3 (by simp) (by omega)
       have gm2:H2.get K2.n=_:=q2.at gm3 (by simp) (by have:=cz K2.n (by omega);omega)
       have gt4:H4.get (H.n+2)=_:=q4.at gt3 (by simp) (by omega)
       have gd4:H4.get K.n=_:=q4.at gd3 (by simp) (by have:=cz K.n (by omega);omega)
       have gt6:H6.get (H.n+2)=_:=q6.at gt3 (by simp) (by omega)
       have bs:∀ (A:Heap) (r:Nat) (x:ByteArray),r<A.n→exBuildSliceAt Tryz.prog 65 1 [(0,.string x)] r A=some (.slice (some ⟨r,0,none⟩) 1 1,A.set r (.row true 0 1 [.string x])):=fun A r x h=>by
        simp[exBuildSliceAt,Heap.pushAt_lt h];rfl
       have bi:∀ (A:Heap) (r:Nat) (x:Int),r<A.n→exBuildSliceAt Tryz.prog 22 1 [(0,.int .i64 x)] r A=some (.slice (some ⟨r,0,none⟩) 1 1,A.set r (.row true 0 1 [.int .i64 x])):=fun A r x h=>by
        simp[exBuildSliceAt,Heap.pushAt_lt h];rfl
       have bm:∀ (A:Heap) (r:Nat) (x y z:Int),r<A.n→exBuildSliceAt Tryz.prog 112 1 [(0,.agg ⟨[.int .i64 x,.int .i64 y,.int .i64 z]⟩)] r A=some (.slice (some ⟨r,0,none⟩) 1 1,A.set r (.row true 0 3 [.int .i64 x,.int .i64 y,.int .i64 z])):=fun A r x y z h=>by
        simp[exBuildSliceAt,Heap.pushAt_lt h];rfl
       have b1':=bs R K3.n d.name (by omega)
       have b2':=bm H2 (K3.n+2) d.kind (cntP d.kind T.means) (if clsP d.kind=3 then d.n else 0) (by omega)
       have b3':=bi H4 (K3.n+4) d.n (by omega)
       have t6':H.n+2<H6.n:=by omega
       have kF:Same (fun i=>col i=2∨col i=3∨col i=7∨i=H.n+2) K3 (H6.set (H.n+2) (.row true 0 1 (rt6 (.slice (some ⟨K3.n+1,0,none⟩) (T.names.length+1) (T.names.length+1)) (.slice (some ⟨K3.n+3,0,none⟩) (T.means.length+1) (T.means.length+1)) y3 y4 y5 (.slice (some ⟨K3.n+5,0,none⟩) (T.values.length+1) (T.values.length+1))))) :=
        (q6.mono fun i h=>by rcases h with h | h | h;exact .inl h;exact .inr (.inl h);exact .inr (.inr (.inl h))).trans (Same.set H6 t6' (.inr (.inr (.inr rfl))) _)
       have kS:Same (fun i=>i=H.n+2) H6 (H6.set (H.n+2) (.row true 0 1 (rt6 (.slice (some ⟨K3.n+1,0,none⟩) (T.names.length+1) (T.names.length+1)) (.slice (some ⟨K3.n+3,0,none⟩) (T.means.length+1) (T.means.length+1)) y3 y4 y5 (.slice (some ⟨K3.n+5,0,none⟩) (T.values.length+1) (T.values.length+1))))):=Same.set (X:=fun i=>i=H.n+2) H6 t6' rfl _
       have zz:=hB.zero
       have colv:∀ i,i<K3.n→(if i=K3.n+1 then 2 else if i=K3.n+3 then 3 else if i=K3.n+5 then 7 else col i)=col i:=fun i hi=>by rw[if_neg (by omega),if_neg (by omega),if_neg (by omega)]
       have next:RAt H (H6.set (H.n+2) (.row true 0 1 (rt6 (.slice (some ⟨K3.n+1,0,none⟩) (T.names.length+1) (T.names.length+1)) (.slice (some ⟨K3.n+3,0,none⟩) (T.means.length+1) (T.means.length+1)) y3 y4 y5 (.slice (some ⟨K3.n+5,0,none⟩) (T.values.length+1) (T.values.length+1)))))
         (sr5 s.name (.slice (some ⟨id,0,none⟩) s.decls.length s.decls.length) (.slice b2 s.procs.length s.procs.length) (.slice b3 s.claims.length s.claims.length) (.slice b4 s.body.length s.body.length)) (fun i=>if i=K3.n+1 then 2 else if i=K3.n+3 then 3 else if i=K3.n+5 then 7 else col i) (rdclT T d) (k+1) 0:=by
        refine⟨hB3.same.then kF (fun i hi => .inr ?_),kF.at hB3.box (by simp) ?_,kF.at hB3.res (by simp) ?_,⟨_,_,_,_,_,_,⟨Heap.get_set_self _ _ t6',by rw[colv _ (by omega)];exact gt0,?_,?_,?_,?_,?_,?_,?_⟩,fun h=>by omega,hz2⟩,fun i hi=>by rw[colv i (by omega)];exact zz i hi,by simp[rdclT];exact hB.n1,by simp[rdclT];exact hB.n2,by simp[rdclT];exact hB.n6,hB.n3,hB.n4,hB.n5⟩
        · have:=zz i
          omega
        · have:=zz H.n (by omega)
          omega
        · have:=zz (H.n+1) (by omega)
          omega
        · have:=repStr.G_move kS (S':=fun i=>(if i=K3.n+1 then 2 else if i=K3.n+3 then 3 else if i=K3.n+5 then 7 else col i)=2) (fun i hi hlt=>by
           rcases hi with h | h
           · have hk:=hX i (by omega)
             exact⟨by rw[colv i (by omega)];exact h,fun e=>by rw[e]at h;omega⟩
           · exact⟨by rw[if_pos h],by omega⟩) G1
          simpa [rdclT] using this
        · have:=repNm.G_move kS (S':=fun i=>(if i=K3.n+1 then 2 else if i=K3.n+3 then 3 else if i=K3.n+5 then 7 else col i)=3) (fun i hi hlt=>by
           rcases hi with h | h
           · have hk:=hX i (by omega)
             exact⟨by rw[colv i (by omega)];exact h,fun e=>by rw[e]at h;omega⟩
           · exact⟨by rw[if_neg (by omega),if_pos h],by omega⟩) G2
          simpa [rdclT] using this
        · exact repStr.G_move kF (fun i hi hlt=>⟨by have hk:=hX i (by omega);rw[colv i (by omega)];exact hi,fun e=>by
           rcases e with e | e | e | e
           · omega
           · omega
           · omega
           · rw[e]at hi;omega⟩) hT3.g3
        · exact repInt.G_move kF (fun i hi hlt=>⟨by have hk:=hX i (by omega);rw[colv i (by omega)];exact hi,fun e=>by
           rcases e with e | e | e | e
           · omega
           · omega
           · omega
           · rw[e]at hi;omega⟩) hT3.g4
        · exact repStrs.G_move kF (fun i hi hlt=>⟨by have hk:=hX i (by omega);rw[colv i (by omega)];exact hi,fun e=>by
           rcases e with e | e | e | e
           · omega
           · omega
           · omega
           · rw[e]at hi;omega⟩) hT3.g5
        · have:=repInt.G_move kS (S':=fun i=>(if i=K3.n+1 then 2 else if i=K3.n+3 then 3 else if i=K3.n+5 then 7 else col i)=7) (fun i hi hlt=>by
           rcases hi with h | h
           · have hk:=hX i (by omega)
             exact⟨by rw[colv i (by omega)];exact h,fun e=>by rw[e]at h;omega⟩
           · exact⟨by rw[if_neg (by omega),if_neg (by omega),if_pos h],by omega⟩) G6
          simpa [rdclT] using this
        · intro i hi
          have hi':K3.n+6≤i:=by rw[← m6];exact hi
          rw[if_neg (by omega),if_neg (by omega),if_neg (by omega)]
          exact cz i (by omega)
       rcases Nat.eq_zero_or_pos k with hk0 | hk0
       · obtain⟨f1,f2,f6⟩:=hz1 hk0
         subst f1
         simp only[nl,Value.slice.injEq]at f2
         obtain⟨rfl,_,_⟩:=f2
         subst f6
         simp only[nl]at e2 e6
         simp[sl5.len,sl5.t1,sl5.t3,sl5.t4,sl5.t5,sl5.t6,sl5.t7,s9,gtR,gdR,b1',e2,gt2,gm2,b2',e4,gt4,gd4,b3',e6,gt6,t6']
         have ne:∀ {a b:Nat},a<b→(a=b)=False∧(b=a)=False:=fun h=>⟨eq_false (by omega),eq_false (by omega)⟩
         have ap0:=ne (show H.n+2<K.n by omega)
         have ap1:=ne (show H.n+2<K2.n by omega)
         have ap2:=ne (show H.n+2<K3.n by omega)
         have ap3:=ne (show H.n+2<K3.n+1 by omega)
         have ap4:=ne (show H.n+2<K3.n+2 by omega)
         have ap5:=ne (show H.n+2<K3.n+2+1 by omega)
         have ap6:=ne (show H.n+2<K3.n+3 by omega)
         have ap7:=ne (show H.n+2<K3.n+4 by omega)
         have ap8:=ne (show H.n+2<K3.n+4+1 by omega)
         have ap9:=ne (show H.n+2<K3.n+5 by omega)
         have ap10:=ne (show K.n<K2.n by omega)
         have ap11:=ne (show K.n<K3.n by omega)
         have ap12:=ne (show K.n<K3.n+1 by omega)
         have ap13:=ne (show K.n<K3.n+2 by omega)
         have ap14:=ne (show K.n<K3.n+2+1 by omega)
         have ap15:=ne (show K.n<K3.n+3 by omega)
         have ap16:=ne (show K.n<K3.n+4 by omega)
         have ap17:=ne (show K.n<K3.n+4+1 by omega)
         have ap18:=ne (show K.n<K3.n+5 by omega)
         have ap19:=ne (show K2.n<K3.n by omega)
         have ap20:=ne (show K2.n<K3.n+1 by omega)
         have ap21:=ne (show K2.n<K3.n+2 by omega)
         have ap22:=ne (show K2.n<K3.n+2+1 by omega)
         have ap23:=ne (show K2.n<K3.n+3 by omega)
         have ap24:=ne (show K2.n<K3.n+4 by omega)
         have ap25:=ne (show K2.n<K3.n+4+1 by omega)
         have ap26:=ne (show K2.n<K3.n+5 by omega)
         have s1:=ne (show H.n<K3.n by omega)
         have s2:=ne (show H.n+1<K3.n by omega)
         have s3:=ne (show H.n<K3.n+1 by omega)
         simp (config:={ decide:=true }) [pre_rb2,List.elem_eq_mem,s1,s2,s3,sl5.len,sl5.t5,w1,ap0,ap1,ap2,ap3,ap4,ap5,ap6,ap7,ap8,ap9,ap10,ap11,ap12,ap13,ap14,ap15,ap16,ap17,ap18,ap19,ap20,ap21,ap22,ap23,ap24,ap25,ap26]
         exact⟨s.decls.length - (k+1),by omega,k+1,_,_,by omega,rfl,by simp[sl5.len],rok nmany nun,next⟩
       · obtain⟨p1,f1,cp1,hp1⟩:=repStr.G_some hT3.g1 (by have:=hB.n1;omega)
         obtain⟨p2,f2,cp2,hp2⟩:=repNm.G_some hT3.g2 (by have:=hB.n2;omega)
         obtain⟨p6,f6,cp6,hp6⟩:=repInt.G_some hT3.g6 (by have:=hB.n6;omega)
         subst f1
         cases f2
         subst f6
         simp[sl5.len,sl5.t1,sl5.t3,sl5.t4,sl5.t5,sl5.t6,sl5.t7,s9,gtR,gdR,b1',e2,gt2,gm2,b2',e4,gt4,gd4,b3',e6,gt6,t6']
         have h1':=hX p1 (by omega)
         have h2':=hX p2 (by omega)
         have h6':=hX p6 (by omega)
         have ne:∀ {a b:Nat},a<b→(a=b)=False∧(b=a)=False:=fun h=>⟨eq_false (by omega),eq_false (by omega)⟩
         have nq:∀ {a b:Nat},a≠b→(a=b)=False∧(b=a)=False:=fun h=>⟨eq_false h,eq_false fun e=>h e.symm⟩
         have o1:=nq (show p1≠H.n+2 from fun e=>by rw[e]at cp1;omega)
         have o2:=nq (show p2≠H.n+2 from fun e=>by rw[e]at cp2;omega)
         have o3:=nq (show p6≠H.n+2 from fun e=>by rw[e]at cp6;omega)
         have o4:=nq (show p1≠p2 from fun e=>by rw[e]at cp1;omega)
         have o5:=nq (show p1≠p6 from fun e=>by rw[e]at cp1;omega)
         have o6:=nq (show p2≠p6 from fun e=>by rw[e]at cp2;omega)
         have ap0:=ne (show H.n+2<K.n by omega)
         have ap1:=ne (show H.n+2<K2.n by omega)
         have ap2:=ne (show H.n+2<K3.n by omega)
         have ap3:=ne (show H.n+2<K3.n+1 by omega)
         have ap4:=ne (show H.n+2<K3.n+2 by omega)
         have ap5:=ne (show H.n+2<K3.n+2+1 by omega)
         have ap6:=ne (show H.n+2<K3.n+3 by omega)
         have ap7:=ne (show H.n+2<K3.n+4 by omega)
         have ap8:=ne (show H.n+2<K3.n+4+1 by omega)
         have ap9:=ne (show H.n+2<K3.n+5 by omega)
         have ap10:=ne (show K.n<K2.n by omega)
         have ap11:=ne (show K.n<K3.n by omega)
         have ap12:=ne (show K.n<K3.n+1 by omega)
         have ap13:=ne (show K.n<K3.n+2 by omega)
         have ap14:=ne (show K.n<K3.n+2+1 by omega)
         have ap15:=ne (show K.n<K3.n+3 by omega)
         have ap16:=ne (show K.n<K3.n+4 by omega)
         have ap17:=ne (show K.n<K3.n+4+1 by omega)
         have ap18:=ne (show K.n<K3.n+5 by omega)
         have ap19:=ne (show K2.n<K3.n by omega)
         have ap20:=ne (show K2.n<K3.n+1 by omega)
         have ap21:=ne (show K2.n<K3.n+2 by omega)
         have ap22:=ne (show K2.n<K3.n+2+1 by omega)
         have ap23:=ne (show K2.n<K3.n+3 by omega)
         have ap24:=ne (show K2.n<K3.n+4 by omega)
         have ap25:=ne (show K2.n<K3.n+4+1 by omega)
         have ap26:=ne (show K2.n<K3.n+5 by omega)
         have ap27:=ne (show p1<K.n by omega)
         have ap28:=ne (show p1<K2.n by omega)
         have ap29:=ne (show p1<K3.n by omega)
         have ap30:=ne (show p1<K3.n+1 by omega)
         have ap31:=ne (show p1<K3.n+2 by omega)
         have ap32:=ne (show p1<K3.n+2+1 by omega)
         have ap33:=ne (show p1<K3.n+3 by omega)
         have ap34:=ne (show p1<K3.n+4 by omega)
         have ap35:=ne (show p1<K3.n+4+1 by omega)
         have ap36:=ne (show p1<K3.n+5 by omega)
         have ap37:=ne (show p2<K.n by omega)
         have ap38:=ne (show p2<K2.n by omega)
         have ap39:=ne (show p2<K3.n by omega)
         have ap40:=ne (show p2<K3.n+1 by omega)
         have ap41:=ne (show p2<K3.n+2 by omega)
         have ap42:=ne (show p2<K3.n+2+1 by omega)
         have ap43:=ne (show p2<K3.n+3 by omega)
         have ap44:=ne (show p2<K3.n+4 by omega)
         have ap45:=ne (show p2<K3.n+4+1 by omega)
         have ap46:=ne (show p2<K3.n+5 by omega)
         have ap47:=ne (show p6<K.n by omega)
         have ap48:=ne (show p6<K2.n by omega)
         have ap49:=ne (show p6<K3.n by omega)
         have ap50:=ne (show p6<K3.n+1 by omega)
         have ap51:=ne (show p6<K3.n+2 by omega)
         have ap52:=ne (show p6<K3.n+2+1 by omega)
         have ap53:=ne (show p6<K3.n+3 by omega)
         have ap54:=ne (show p6<K3.n+4 by omega)
         have ap55:=ne (show p6<K3.n+4+1 by omega)
         have ap56:=ne (show p6<K3.n+5 by omega)
         have s1:=ne (show H.n<K3.n by omega)
         have s2:=ne (show H.n+1<K3.n by omega)
         have s3:=ne (show H.n<K3.n+1 by omega)
         simp (config:={ decide:=true }) [pre_rb2,List.elem_eq_mem,s1,s2,s3,sl5.len,sl5.t5,w1,o1,o2,o3,o4,o5,o6,ap0,ap1,ap2,ap3,ap4,ap5,ap6,ap7,ap8,ap9,ap10,ap11,ap12,ap13,ap14,ap15,ap16,ap17,ap18,ap19,ap20,ap21,ap22,ap23,ap24,ap25,ap26,ap27,ap28,ap29,ap30,ap31,ap32,ap33,ap34,ap35,ap36,ap37,ap38,ap39,ap40,ap41,ap42,ap43,ap44,ap45,ap46,ap47,ap48,ap49,ap50,ap51,ap52,ap53,ap54,ap55,ap56]
         exact⟨s.decls.length - (k+1),by omega,k+1,_,_,by omega,rfl,by simp[sl5.len],rok nmany nun,next⟩
   · have:k=s.decls.length:=by omega
     subst this
     rw[List.drop_length,rdeclsB]at hres
     simp[ht,u1,u3,u4,g5,g0]
     exact⟨T,col,hres.symm,hB,by simp[ht],by simp[ht,u1],by simp[ht,u3],by simp[ht,u4]⟩
 · rintro t K hk ⟨T,col,hres,hB,ht,u1,u3,u4⟩
   have hrb:rbuildB s=rprocsB T s.procs:=by unfold rbuildB;rw[hres]
   rw[hrb]
   generalize hsc2:sr5 s.name (.slice b1 s.decls.length s.decls.length) (.slice b2 s.procs.length s.procs.length) (.slice b3 s.claims.length s.claims.length) (.slice b4 s.body.length s.body.length)=sc2 at *
   simp[ht,u1,u3,u4]
   refine loop_mid2 (RProcJ H sc2 (rprocsB T s.procs)) (RProcI H sc2 s.procs (rprocsB T s.procs) s.decls.length) s.procs.length ?_ ?_ ?_
   · exact⟨0,T,col,Nat.zero_le _,by simp,by simp[ht],by simp,hB⟩
   · clear hB hres hrb
     rintro m t1 K hk1 ⟨k,T1,col,hkl,rfl,g10,hres,hB⟩
     have ht1:t1.length=301:=hk1.1.trans (by simp[ht])
     have hh1:=hk1.all [1,3,4] (by decide +kernel)
     simp[ht,u1,u3,u4]at hh1
     obtain⟨z1,z3,z4⟩:=hh1
     have g0:=hB.box
     rw[← hsc2]at g0
     have gr:=hB.res
     obtain⟨x1,x2,x3,x4,x5,x6,hT,_⟩:=hB.tab
     have nK:=hB.same.n
     have trK:H.n+1<K.n:=Heap.lt_of_get gr (by simp)
     have ttK:H.n+2<K.n:=Heap.lt_of_get hT.obj (by simp)
     simp only[sr5]at g0
     rcases Nat.lt_or_ge k s.procs.length with hlt | hge
     · obtain⟨id,tl,cs,e1,hid,_,hrow,hcl,hget,hle⟩:=repPrc.G_at hp hlt
       cases e1
       have hrK:=hB.same.at hrow (by simp) (fun h=>h)
       have hdrop:s.procs.drop k=s.procs[k] :: s.procs.drop (k+1):=List.drop_eq_getElem_cons hlt
       have hpq:=hq s.procs[k] (List.getElem_mem hlt)
       generalize hpk:s.procs[k]=p at *
       rw[hdrop,rprocsB]at hres
       obtain⟨w1,w2,w3,hc,gp,gv,gb⟩:=hget
       obtain⟨a1,rfl⟩:=repIdn.G_slice gp
       obtain⟨a2,rfl⟩:=repIdn.G_slice gv
       obtain⟨a3,rfl⟩:=repStm.G_slice gb
       simp only[repPrc,pc5]at hc hcl hle
       have hB1:=hB.keep (Same.push (fun _=>False) K (.row true 0 1 [.int .i64 p.at_,.string p.name,.slice a1 p.params.length p.params.length,.slice a2 p.vars.length p.vars.length,.slice a3 p.body.length p.body.length])) (fun _ h=>h.elim)
       obtain⟨y1,y2,y3,y4,y5,y6,hT1,hz1,hz2⟩:=hB1.tab
       have gt1:=hT1.obj
       have gr1:=hB1.res
       have gp1:(K.push (.row true 0 1 [.int .i64 p.at_,.string p.name,.slice a1 p.params.length p.params.length,.slice a2 p.vars.length p.vars.length,.slice a3 p.body.length p.body.length])).get K.n=_:=Heap.get_push_self _ _
       have eT1:=hasText_run hE hT1.g1 (by have:=hB.n1;omega) p.name
       have eT2:=hasText_run hE hT1.g3 (by have:=hB.n3;omega) p.name
       have w1:IntKind.i64.wrap ((k:Int)+1)=(k:Int)+1:=wrap64 _ (by omega) (by omega)
       simp only[rt6]at gt1
       simp[ht1,z1,z3,z4,g10,g0,hlt,hrK,hcl,hle,hc]
       have n1:(K.push (.row true 0 1 [.int .i64 p.at_,.string p.name,.slice a1 p.params.length p.params.length,.slice a2 p.vars.length p.vars.length,.slice a3 p.body.length p.body.length])).n=K.n+1:=rfl
       generalize hK1:K.push (.row true 0 1 [.int .i64 p.at_,.string p.name,.slice a1 p.params.length p.params.length,.slice a2 p.vars.length p.vars.length,.slice a3 p.body.length p.body.length])=K1 at *
       refine region_quiet (by exact q_rb3) ?_
       have sl:PSl H k K.n (Fr t1 [(11,.pointer (some ⟨K.n,0,none⟩))]):=by
        refine⟨by simp[ht1],by simp[ht1,z1],by simp[ht1,z3],by simp[ht1,z4],by simp[ht1,g10],by simp[ht1]⟩
       by_cases c1:hasP T1.names p.name=true∨hasP T1.procs p.name=true
       · obtain⟨K2,eF,kF⟩:=rfault_run hE 17 p.at_ K1
         have gr2:=kF.at gr1 (by simp) (fun h=>h)
         have tr2:=Heap.lt_of_get gr2 (by simp)
         have r17:rprocsB T s.procs = .error (17,p.at_):=by rw[← hres];unfold rprcB;rw[if_pos c1]
         rw[r17]
         have kE:Same (fun _=>False) H (K2.set (H.n+1) (.row true 0 1 [.int .i64 17,.int .i64 p.at_])):=(hB1.same.trans kF).then_set tr2 (.inr (by omega)) _
         by_cases c2:hasP T1.names p.name=true
         · simp[ht1,z1,z3,z4,g10,gt1,gp1,eT1,c2,eF,gr2,tr2]
           exact⟨kE,rfl⟩
         · have c3:=c1.resolve_left c2
           have c2':hasP T1.names p.name=false:=by simpa using c2
           simp[ht1,z1,z3,z4,g10,gt1,gp1,eT1,eT2,c2',c3,eF,gr2,tr2]
           exact⟨kE,rfl⟩
       have c2:hasP T1.names p.name=false:=by simpa using fun h=>c1 (.inl h)
       have c3:hasP T1.procs p.name=false:=by simpa using fun h=>c1 (.inr h)
       obtain⟨y3b,ey3⟩:=repStr.G_slice hT1.g3
       subst ey3
       have np:=hB.n3
       by_cases c4:12≤T1.procs.length
       · obtain⟨K2,eF,kF⟩:=rfault_run hE 16 p.at_ K1
         have gr2:=kF.at gr1 (by simp) (fun h=>h)
         have tr2:=Heap.lt_of_get gr2 (by simp)
         have r16:rprocsB T s.procs = .error (16,p.at_):=by rw[← hres];unfold rprcB;rw[if_neg c1,if_pos c4]
         rw[r16]
         have kE:Same (fun _=>False) H (K2.set (H.n+1) (.row true 0 1 [.int .i64 16,.int .i64 p.at_])):=(hB1.same.trans kF).then_set tr2 (.inr (by omega)) _
         have c4':(12:Int)≤T1.procs.length:=by omega
         simp[ht1,z1,z3,z4,g10,gt1,gp1,eT1,eT2,c2,c3,c4,c4',eF,gr2,tr2]
         exact⟨kE,rfl⟩
       have c4':¬(12:Int)≤T1.procs.length:=by omega
       have rerr:∀ q,rlocB p.params.length [] 0 (p.params++p.vars) = .error q→rprocsB T s.procs = .error q:=fun q h=>by rw[← hres];unfold rprcB;rw[if_neg c1,if_neg c4,h]
       have rgo:∀ l,rlocB p.params.length [] 0 (p.params++p.vars) = .ok l→rprocsB (rprcT T1 p l) (s.procs.drop (k+1))=rprocsB T s.procs:=fun l h=>by rw[← hres];unfold rprcB;rw[if_neg c1,if_neg c4,h]
       simp[ht1,z1,z3,z4,g10,gt1,gp1,eT1,eT2,c2,c3,c4,c4']
       have hidl:(p.params++p.vars).length=p.params.length+p.vars.length:=List.length_append
       have hidx:∀ j,(p.params++p.vars)[j]? = if j<p.params.length then p.params[j]? else p.vars[j - p.params.length]? := fun j=>List.getElem?_append
       generalize hids:p.params++p.vars=ids at *
       generalize hr0:rlocB p.params.length [] 0 ids=res at *
       refine loop_mid2 (RLocJ H K1 res) (RLocI H K1 k K.n p.params.length ids res) ids.length ?_ ?_ ?_
       · exact⟨Same.push _ _ _,0,[],.slice (some ⟨K1.n,0,none⟩) 0 0,Nat.zero_le _,by simp,by simp[ht1],by simp[ht1],repStr.G_empty K1 (Nat.le_refl _),rfl,hr0⟩
       · rintro m t2 K2 hk2 ⟨kK,j,acc,v,hj,rfl,g13,g12,gA,hal,hrl⟩
         have ht2:t2.length=301:=hk2.1.trans (by simp[ht1])
         have hh2:=hk2.all [1,3,4,10,11] (by decide +kernel)
         simp[ht1,z1,z3,z4,g10]at hh2
         obtain⟨x1',x3',x4',x10',x11'⟩:=hh2
         have gp2:=kK.at gp1 (by simp) (fun h=>h)
         have gr2:=kK.at gr1 (by simp) (fun h=>h)
         have nK2:=kK.n
         have w3:IntKind.i64.wrap ((p.params.length:Int)+p.vars.length)=(p.params.length:Int)+p.vars.length:=wrap64 _ (by omega) (by omega)
         have w4:IntKind.i64.wrap ((j:Int)+1)=(j:Int)+1:=wrap64 _ (by omega) (by omega)
         obtain⟨vb,rfl⟩:=repStr.G_slice gA
         rcases Nat.lt_or_ge j ids.length with hlt2 | hge2
         · have hjlt:(j:Int)<(p.params.length:Int)+p.vars.length:=by omega
           have idrop:ids.drop j=ids[j] :: ids.drop (j+1):=List.drop_eq_getElem_cons hlt2
           have hxj:=hidx j
           rw[List.getElem?_eq_getElem hlt2]at hxj
           rw[idrop]at hrl
           generalize hx:ids[j]=x at *
           rw[rlocB]at hrl
           have kX:∀ o:AObj,Same (fun _=>False) H (K2.push o):=fun o=>(hB1.same.trans kK).then_push o
           have q2:∀ o:AObj,(K2.push o).get K.n=K2.get K.n:=fun o=>by rw[Heap.get_push,if_neg (by omega)]
           have qr:∀ o:AObj,(K2.push o).get (H.n+1)=K2.get (H.n+1):=fun o=>by rw[Heap.get_push,if_neg (by omega)]
           have gA3:repStr.G (K2.push (.row true 0 1 [.int .i64 x.at_,.string x.name])) (fun i=>K1.n≤i) (.slice vb acc.length acc.length) acc:=repStr.G_move (Same.push (fun _=>False) _ _) (fun i hi _=>⟨hi,fun h=>h⟩) gA
           have eT3:=hasText_run hE gA3 (by omega) x.name
           have vlt:∀ i,vid (.slice vb acc.length acc.length) i→K1.n≤i∧i<K2.n:=fun i hi=>⟨(repStr.G_lt gA hi).2,(repStr.G_lt gA hi).1⟩
           have gA4:repStr.G (K2.push (.row true 0 1 [.int .i64 x.at_,.string x.name])) (fun i=>K1.n≤i) (.slice vb acc.length acc.length) acc:=gA3
           obtain⟨v',K4,e4,g4,k4⟩:=repStr.G_app tf_str gA4 (fun i hi=>by simp at hi;omega) (by omega) (a:=x.name) (c:=[.string x.name]) rfl
           obtain⟨vb',rfl⟩:=repStr.G_slice g4
           have e5:(acc++[x.name]).length=acc.length+1:=by simp
           rw[e5]at e4 g4
           simp only[repStr,Heap.n_push]at e4
           have fin:¬((j<p.params.length∧4≤j)∨8≤j)→hasP acc x.name=false→∀ t:List Value,rd t 13 = .int .i64 ((j:Int)+1)→rd t 12 = .slice vb' (acc.length+1) (acc.length+1)→RLocI H K1 k K.n p.params.length ids res (ids.length - (j+1)) t K4:=fun hc hf t h13 h12 =>
            ⟨(kK.then_push _).then k4 (fun i hi => .inr (vlt i hi).1),j+1,acc++[x.name],_,by omega,rfl,by rw[h13];simp,h12,g4,by simp;omega,by rw[if_neg (by simp[hf]),if_neg hc]at hrl;exact hrl⟩
           obtain⟨KF,eF,kF⟩:=rfault_run hE 17 x.at_ (K2.push (.row true 0 1 [.int .i64 x.at_,.string x.name]))
           obtain⟨KG,eG,kG⟩:=rfault_run hE 16 x.at_ (K2.push (.row true 0 1 [.int .i64 x.at_,.string x.name]))
           have grF:=kF.at ((qr _).trans gr2) (by simp) (fun h=>h)
           have grG:=kG.at ((qr _).trans gr2) (by simp) (fun h=>h)
           have trF:=Heap.lt_of_get grF (by simp)
           have trG:=Heap.lt_of_get grG (by simp)
           have kEF:Same (fun _=>False) H (KF.set (H.n+1) (.row true 0 1 [.int .i64 17,.int .i64 x.at_])):=((kX _).trans kF).then_set trF (.inr (by omega)) _
           have kEG:Same (fun _=>False) H (KG.set (H.n+1) (.row true 0 1 [.int .i64 16,.int .i64 x.at_])):=((kX _).trans kG).then_set trG (.inr (by omega)) _
           have r17:hasP acc x.name=true→rprocsB T s.procs = .error (17,x.at_):=fun h=>rerr _ (by rw[if_pos h]at hrl;exact hrl.symm)
           have r16:hasP acc x.name=false→(j<p.params.length∧4≤j)∨8≤j→rprocsB T s.procs = .error (16,x.at_):=fun h h'=>rerr _ (by rw[if_neg (by simp[h]),if_pos h']at hrl;exact hrl.symm)
           by_cases d1:j<p.params.length
           · have d1':(j:Int)<p.params.length:=by omega
             obtain⟨aid,atl,acs,ae,_,alt,arow,acl,aget,ale⟩:=repIdn.G_at gp d1
             cases ae
             have hx':p.params[j]=x:=by rw[if_pos d1,List.getElem?_eq_getElem d1]at hxj;exact (Option.some.inj hxj).symm
             rw[hx']at aget
             simp only[repIdn,Idn.cells]at aget acl ale arow
             have arX:=fun o:AObj=>(kX o).at arow (by simp) (fun h=>h)
             by_cases hf:hasP acc x.name=true
             · rw[r17 hf]
               simp[ht2,x1',x3',x4',x10',x11',g13,g12,gp2,w3,hjlt,q2,d1,d1',arX,acl,ale,aget,eT3,hf,eF,grF,trF]
               exact⟨kEF,rfl⟩
             have hf':hasP acc x.name=false:=by simpa using hf
             by_cases d2:4≤j
             · have d2':(4:Int)≤j:=by omega
               rw[r16 hf' (.inl ⟨d1,d2⟩)]
               simp[ht2,x1',x3',x4',x10',x11',g13,g12,gp2,w3,hjlt,q2,d1,d1',arX,acl,ale,aget,eT3,hf',d2,d2',eG,grG,trG]
               exact⟨kEG,rfl⟩
             · have d2':¬(4:Int)≤j:=by omega
               have d3':¬(8:Int)≤j:=by omega
               simp[ht2,x1',x3',x4',x10',x11',g13,g12,gp2,w3,hjlt,q2,d1,d1',arX,acl,ale,aget,eT3,hf',d2,d2',d3',e4,w4]
               exact⟨_,by omega,fin (by omega) hf' _ (by simp[ht2]) (by simp[ht2])⟩
           · have d1':¬(j:Int)<p.params.length:=by omega
             have dv:j - p.params.length<p.vars.length:=by omega
             obtain⟨aid,atl,acs,ae,_,alt,arow,acl,aget,ale⟩:=repIdn.G_at gv dv
             cases ae
             have hx':p.vars[j - p.params.length]=x:=by rw[if_neg d1,List.getElem?_eq_getElem dv]at hxj;exact (Option.some.inj hxj).symm
             rw[hx']at aget
             simp only[repIdn,Idn.cells]at aget acl ale arow
             have arX:=fun o:AObj=>(kX o).at arow (by simp) (fun h=>h)
             have w5:IntKind.i64.wrap ((j:Int) - p.params.length)=((j - p.params.length:Nat):Int):=by rw[wrap64 _ (by omega) (by omega)];omega
             have dvi:((j - p.params.length:Nat):Int)<p.vars.length:=by omega
             by_cases hf:hasP acc x.name=true
             · rw[r17 hf]
               simp[ht2,x1',x3',x4',x10',x11',g13,g12,gp2,w3,hjlt,q2,d1,d1',arX,acl,ale,aget,w5,dv,dvi,eT3,hf,eF,grF,trF]
               exact⟨kEF,rfl⟩
             have hf':hasP acc x.name=false:=by simpa using hf
             by_cases d3:8≤j
             · have d3':(8:Int)≤j:=by omega
               rw[r16 hf' (.inr d3)]
               simp[ht2,x1',x3',x4',x10',x11',g13,g12,gp2,w3,hjlt,q2,d1,d1',arX,acl,ale,aget,w5,dv,dvi,eT3,hf',d3,d3',eG,grG,trG]
               exact⟨kEG,rfl⟩
             · have d3':¬(8:Int)≤j:=by omega
               simp[ht2,x1',x3',x4',x10',x11',g13,g12,gp2,w3,hjlt,q2,d1,d1',arX,acl,ale,aget,w5,dv,dvi,eT3,hf',d3,d3',e4,w4]
               exact⟨_,by omega,fin (by omega) hf' _ (by simp[ht2]) (by simp[ht2])⟩
         · have:j=ids.length:=by omega
           subst this
           rw[List.drop_length,rlocB]at hrl
           have hjlt:¬((ids.length:Int)<(p.params.length:Int)+p.vars.length):=by omega
           simp[ht2,x1',x3',x4',x10',x11',g13,g12,gp2,w3,hjlt]
           exact⟨kK,acc,_,hrl.symm,by simp[ht2,g12],gA⟩
       · rintro t2 K2 hk2 ⟨kK,acc,v,hra,g12,gA⟩
         have ht2:t2.length=301:=hk2.1.trans (by simp[ht1])
         have hh2:=hk2.all [1,3,4,10,11] (by decide +kernel)
         simp[ht1,z1,z3,z4,g10]at hh2
         obtain⟨x1',x3',x4',x10',x11'⟩:=hh2
         subst g12
         obtain⟨vb,evb⟩:=repStr.G_slice gA
         have gt0:=hT.tc
         have cz:∀ i,K.n≤i→col i=0:=hT.top
         have hX:∀ i,col i≠0→i<K.n:=fun i hi=>by
          rcases Nat.lt_or_ge i K.n with h | h
          · exact h
          · exact absurd (cz i h) hi
         have hB3:=hB1.keep kK (fun _ h=>h.elim)
         have hT3:=hT1.keep kK (fun _ h=>h.elim)
         have gp3:=kK.at gp1 (by simp) (fun h=>h)
         have nK2:=kK.n
         have gt3:=hT3.obj
         simp only[rt6]at gt3
         have kR:Same (fun _=>False) K2 (Heap.room 6 K2):=room6 K2
         have nR:(Heap.room 6 K2).n=K2.n+6:=rfl
         have g5':repStrs.G K2 (fun i=>col i=6∨(K1.n≤i∧i<K2.n)) y5 T1.locals:=repStrs.G_move (Same.refl (fun _=>False) _) (fun i hi _=>⟨.inl hi,fun h=>h⟩) hT3.g5
         have v5lt:∀ i,vid y5 i→col i=6:=fun i hi=>(repStrs.G_lt hT3.g5 hi).2
         obtain⟨H2,H4,H6,e2,e4,e6,q2,q4,q6,m2,m4,m6,G3,G4,G5⟩:=app3 repStr repInt repStrs tf_str tf_int tf_strs kR nR (S1:=fun i=>col i=4) (S2:=fun i=>col i=5) (S3:=fun i=>col i=6∨(K1.n≤i∧i<K2.n))
          (fun i h=>by have:=hX i (by omega);omega) (fun i h=>by have:=hX i (by omega);omega) (fun i h=>by
           rcases h with h | h
           · have:=hX i (by omega);omega
           · omega) (fun i h=>by omega) (fun i h h'=>by
           have:=hX i (by omega)
           rcases h' with h' | h'<;>omega) (fun i h h'=>by
           have:=hX i (by omega)
           rcases h' with h' | h'<;>omega)
          hT3.g3 hT3.g4 g5' (a1:=p.name) (a2:=(p.params.length:Int)) (a3:=acc) rfl rfl ⟨rd t2 12,rfl,repStr.G_move (Same.refl (fun _=>False) _) (fun i hi hl=>⟨⟨.inr ⟨hi,hl⟩,fun e=>by have:=v5lt i e;have:=cz i (by omega);omega⟩,fun h=>h⟩) gA⟩ (by omega) (by have:=hB.n4;omega) (by have:=hB.n5;omega)
         simp only[repStr,repInt,repStrs]at e2 e4 e6
         refine region_free (by exact no_rb4) (by exact la_rb4) (by exact pr_rb4) (by exact ok_rb4) (by exact ne_rb4) ?_
         generalize hR:Heap.room 6 K2=R at *
         have gtR:R.get (H.n+2)=_:=kR.at gt3 (by simp) (fun h=>h)
         have gpR:R.get K.n=_:=kR.at gp3 (by simp) (fun h=>h)
         have gt2:H2.get (H.n+2)=_:=q2.at gt3 (by simp) (by omega)
         have gp2:H2.get K.n=_:=q2.at gp3 (by simp) (by have:=cz K.n (by omega);omega)
         have gt4:H4.get (H.n+2)=_:=q4.at gt3 (by simp) (by omega)
         have gt6:H6.get (H.n+2)=_:=q6.at gt3 (by simp) (by omega)
         have bs:∀ (A:Heap) (r:Nat) (x:ByteArray),r<A.n→exBuildSliceAt Tryz.prog 65 1 [(0,.string x)] r A=some (.slice (some ⟨r,0,none⟩) 1 1,A.set r (.row true 0 1 [.string x])):=fun A r x h=>by
          simp[exBuildSliceAt,Heap.pushAt_lt h];rfl
         have bi:∀ (A:Heap) (r:Nat) (x:Int),r<A.n→exBuildSliceAt Tryz.prog 22 1 [(0,.int .i64 x)] r A=some (.slice (some ⟨r,0,none⟩) 1 1,A.set r (.row true 0 1 [.int .i64 x])):=fun A r x h=>by
          simp[exBuildSliceAt,Heap.pushAt_lt h];rfl
         have bl:∀ (A:Heap) (r:Nat),r<A.n→exBuildSliceAt Tryz.prog 113 1 [(0,rd t2 12)] r A=some (.slice (some ⟨r,0,none⟩) 1 1,A.set r (.row true 0 1 [rd t2 12])):=fun A r h=>by
          rw[evb]
          simp[exBuildSliceAt,Heap.pushAt_lt h];rfl
         have b1':=bs R K2.n p.name (by omega)
         have b2':=bi H2 (K2.n+2) p.params.length (by omega)
         have b3':=bl H4 (K2.n+4) (by omega)
         have t6':H.n+2<H6.n:=by omega
         have kF:Same (fun i=>col i=4∨col i=5∨col i=6∨i=H.n+2∨(K1.n≤i∧i<K2.n)) K2 (H6.set (H.n+2) (.row true 0 1 (rt6 y1 y2 (.slice (some ⟨K2.n+1,0,none⟩) (T1.procs.length+1) (T1.procs.length+1)) (.slice (some ⟨K2.n+3,0,none⟩) (T1.heads.length+1) (T1.heads.length+1)) (.slice (some ⟨K2.n+5,0,none⟩) (T1.locals.length+1) (T1.locals.length+1)) y6))) :=
          (q6.mono fun i h=>by
           rcases h with h | h | h | h
           · exact .inl h
           · exact .inr (.inl h)
           · exact .inr (.inr (.inl h))
           · exact .inr (.inr (.inr (.inr h)))).trans (Same.set H6 t6' (.inr (.inr (.inr (.inl rfl)))) _)
         have kS:Same (fun i=>i=H.n+2) H6 (H6.set (H.n+2) (.row true 0 1 (rt6 y1 y2 (.slice (some ⟨K2.n+1,0,none⟩) (T1.procs.length+1) (T1.procs.length+1)) (.slice (some ⟨K2.n+3,0,none⟩) (T1.heads.length+1) (T1.heads.length+1)) (.slice (some ⟨K2.n+5,0,none⟩) (T1.locals.length+1) (T1.locals.length+1)) y6))):=Same.set (X:=fun i=>i=H.n+2) H6 t6' rfl _
         have zz:=hB.zero
         have colv:∀ i,i<K1.n→(if i=K2.n+1 then 4 else if i=K2.n+3 then 5 else if i=K2.n+5 then 6 else if K1.n≤i∧i<K2.n then 6 else col i)=col i:=fun i hi=>by rw[if_neg (by omega),if_neg (by omega),if_neg (by omega),if_neg (by omega)]
         have next:∀ sc,K2.get H.n = .row true 0 1 sc→RAt H (H6.set (H.n+2) (.row true 0 1 (rt6 y1 y2 (.slice (some ⟨K2.n+1,0,none⟩) (T1.procs.length+1) (T1.procs.length+1)) (.slice (some ⟨K2.n+3,0,none⟩) (T1.heads.length+1) (T1.heads.length+1)) (.slice (some ⟨K2.n+5,0,none⟩) (T1.locals.length+1) (T1.locals.length+1)) y6))) sc (fun i=>(if i=K2.n+1 then 4 else if i=K2.n+3 then 5 else if i=K2.n+5 then 6 else if K1.n≤i∧i<K2.n then 6 else col i)) (rprcT T1 p acc) s.decls.length (k+1):=by
          intro sc hsc
          refine⟨hB3.same.then kF (fun i hi => .inr ?_),kF.at hsc (by simp) ?_,kF.at hB3.res (by simp) ?_,⟨_,_,_,_,_,_,⟨Heap.get_set_self _ _ t6',by rw[colv _ (by omega)];exact gt0,?_,?_,?_,?_,?_,?_,?_⟩,hz1,fun h=>by omega⟩,fun i hi=>by rw[colv i (by omega)];exact zz i hi,hB.n1,hB.n2,hB.n6,by simp[rprcT];exact hB.n3,by simp[rprcT];exact hB.n4,by simp[rprcT];exact hB.n5⟩
          · have:=zz i
            omega
          · have:=zz H.n (by omega)
            omega
          · have:=zz (H.n+1) (by omega)
            omega
          · exact repStr.G_move kF (fun i hi hlt=>⟨by have hk:=hX i (by omega);rw[colv i (by omega)];exact hi,fun e=>by
             have hk:=hX i (by omega)
             rcases e with e | e | e | e | e
             · omega
             · omega
             · omega
             · rw[e]at hi;omega
             · omega⟩) hT3.g1
          · exact repNm.G_move kF (fun i hi hlt=>⟨by have hk:=hX i (by omega);rw[colv i (by omega)];exact hi,fun e=>by
             have hk:=hX i (by omega)
             rcases e with e | e | e | e | e
             · omega
             · omega
             · omega
             · rw[e]at hi;omega
             · omega⟩) hT3.g2
          · have:=repStr.G_move kS (S':=fun i=>(if i=K2.n+1 then 4 else if i=K2.n+3 then 5 else if i=K2.n+5 then 6 else if K1.n≤i∧i<K2.n then 6 else col i)=4) (fun i hi hlt=>by
             rcases hi with h | h
             · have hk:=hX i (by omega)
               exact⟨by rw[colv i (by omega)];exact h,fun e=>by rw[e]at h;omega⟩
             · exact⟨by rw[if_pos h],by omega⟩) G3
            simpa [rprcT] using this
          · have:=repInt.G_move kS (S':=fun i=>(if i=K2.n+1 then 4 else if i=K2.n+3 then 5 else if i=K2.n+5 then 6 else if K1.n≤i∧i<K2.n then 6 else col i)=5) (fun i hi hlt=>by
             rcases hi with h | h
             · have hk:=hX i (by omega)
               exact⟨by rw[colv i (by omega)];exact h,fun e=>by rw[e]at h;omega⟩
             · exact⟨by rw[if_neg (by omega),if_pos h],by omega⟩) G4
            simpa [rprcT] using this
          · have:=repStrs.G_move kS (S':=fun i=>(if i=K2.n+1 then 4 else if i=K2.n+3 then 5 else if i=K2.n+5 then 6 else if K1.n≤i∧i<K2.n then 6 else col i)=6) (fun i hi hlt=>by
             rcases hi with (h | h) | h
             · have hk:=hX i (by omega)
               exact⟨by rw[colv i (by omega)];exact h,fun e=>by rw[e]at h;omega⟩
             · exact⟨by rw[if_neg (by omega),if_neg (by omega),if_neg (by omega),if_pos h],by omega⟩
             · exact⟨by rw[if_neg (by omega),if_neg (by omega),if_pos h],by omega⟩) G5
            simpa [rprcT] using this
          · exact repInt.G_move kF (fun i hi hlt=>⟨by have hk:=hX i (by omega);rw[colv i (by omega)];exact hi,fun e=>by
             have hk:=hX i (by omega)
             rcases e with e | e | e | e | e
             · omega
             · omega
             · omega
             · rw[e]at hi;omega
             · omega⟩) hT3.g6
          · intro i hi
            have hi':K2.n+6≤i:=by rw[← m6];exact hi
            rw[if_neg (by omega),if_neg (by omega),if_neg (by omega),if_neg (by omega)]
            exact cz i (by omega)
         rcases Nat.eq_zero_or_pos k with hk0 | hk0
         · obtain⟨f3,f4,f5⟩:=hz2 hk0
           simp only[nl,Value.slice.injEq]at f3
           obtain⟨rfl,_,_⟩:=f3
           subst f4
           subst f5
           simp only[nl]at e4 e6
           simp[ht2,x1',x3',x4',x10',x11',gtR,gpR,b1',e2,gt2,gp2,b2',e4,gt4,b3',e6,gt6,t6']
           have ne:∀ {a b:Nat},a<b→(a=b)=False∧(b=a)=False:=fun h=>⟨eq_false (by omega),eq_false (by omega)⟩
           have nq:∀ {a b:Nat},a≠b→(a=b)=False∧(b=a)=False:=fun h=>⟨eq_false h,eq_false fun e=>h e.symm⟩
           have s1:=ne (show H.n<K2.n by omega)
           have s2:=ne (show H.n+1<K2.n by omega)
           have s3:=ne (show H.n<K2.n+1 by omega)
           have ap0:=ne (show H.n+2<K.n by omega)
           have ap1:=ne (show H.n+2<K2.n by omega)
           have ap2:=ne (show H.n+2<K2.n+1 by omega)
           have ap3:=ne (show H.n+2<K2.n+2 by omega)
           have ap4:=ne (show H.n+2<K2.n+2+1 by omega)
           have ap5:=ne (show H.n+2<K2.n+3 by omega)
           have ap6:=ne (show H.n+2<K2.n+4 by omega)
           have ap7:=ne (show H.n+2<K2.n+4+1 by omega)
           have ap8:=ne (show H.n+2<K2.n+5 by omega)
           have ap9:=ne (show K.n<K2.n by omega)
           have ap10:=ne (show K.n<K2.n+1 by omega)
           have ap11:=ne (show K.n<K2.n+2 by omega)
           have ap12:=ne (show K.n<K2.n+2+1 by omega)
           have ap13:=ne (show K.n<K2.n+3 by omega)
           have ap14:=ne (show K.n<K2.n+4 by omega)
           have ap15:=ne (show K.n<K2.n+4+1 by omega)
           have ap16:=ne (show K.n<K2.n+5 by omega)
           simp (config:={ decide:=true }) [pre_rb4,List.elem_eq_mem,s1,s2,s3,ht2,x10',w1,ap0,ap1,ap2,ap3,ap4,ap5,ap6,ap7,ap8,ap9,ap10,ap11,ap12,ap13,ap14,ap15,ap16]
           exact⟨s.procs.length - (k+1),by omega,k+1,_,_,by omega,rfl,by simp[ht2],rgo acc hra,next _ hB3.box⟩
         · obtain⟨p3,f3,cp3,hp3⟩:=repStr.G_some hT3.g3 (by omega)
           obtain⟨p4,f4,cp4,hp4⟩:=repInt.G_some hT3.g4 (by have:=hB.n4;omega)
           obtain⟨p5,f5,cp5,hp5⟩:=repStrs.G_some hT3.g5 (by have:=hB.n5;omega)
           cases f3
           subst f4
           subst f5
           simp[ht2,x1',x3',x4',x10',x11',gtR,gpR,b1',e2,gt2,gp2,b2',e4,gt4,b3',e6,gt6,t6']
           have h3':=hX p3 (by omega)
           have h4':=hX p4 (by omega)
           have h5':=hX p5 (by omega)
           have ne:∀ {a b:Nat},a<b→(a=b)=False∧(b=a)=False:=fun h=>⟨eq_false (by omega),eq_false (by omega)⟩
           have nq:∀ {a b:Nat},a≠b→(a=b)=False∧(b=a)=False:=fun h=>⟨eq_false h,eq_false fun e=>h e.symm⟩
           have s1:=ne (show H.n<K2.n by omega)
           have s2:=ne (show H.n+1<K2.n by omega)
           have s3:=ne (show H.n<K2.n+1 by omega)
           have o1:=nq (show p3≠H.n+2 from fun e=>by rw[e]at cp3;omega)
           have o2:=nq (show p4≠H.n+2 from fun e=>by rw[e]at cp4;omega)
           have o3:=nq (show p5≠H.n+2 from fun e=>by rw[e]at cp5;omega)
           have o4:=nq (show p3≠p4 from fun e=>by rw[e]at cp3;omega)
           have o5:=nq (show p3≠p5 from fun e=>by rw[e]at cp3;omega)
           have o6:=nq (show p4≠p5 from fun e=>by rw[e]at cp4;omega)
           have ap0:=ne (show H.n+2<K.n by omega)
           have ap1:=ne (show H.n+2<K2.n by omega)
           have ap2:=ne (show H.n+2<K2.n+1 by omega)
           have ap3:=ne (show H.n+2<K2.n+2 by omega)
           have ap4:=ne (show H.n+2<K2.n+2+1 by omega)
           have ap5:=ne (show H.n+2<K2.n+3 by omega)
           have ap6:=ne (show H.n+2<K2.n+4 by omega)
           have ap7:=ne (show H.n+2<K2.n+4+1 by omega)
           have ap8:=ne (show H.n+2<K2.n+5 by omega)
           have ap9:=ne (show K.n<K2.n by omega)
           have ap10:=ne (show K.n<K2.n+1 by omega)
           have ap11:=ne (show K.n<K2.n+2 by omega)
           have ap12:=ne (show K.n<K2.n+2+1 by omega)
           have ap13:=ne (show K.n<K2.n+3 by omega)
           have ap14:=ne (show K.n<K2.n+4 by omega)
           have ap15:=ne (show K.n<K2.n+4+1 by omega)
           have ap16:=ne (show K.n<K2.n+5 by omega)
           have ap17:=ne (show p3<K.n by omega)
           have ap18:=ne (show p3<K2.n by omega)
           have ap19:=ne (show p3<K2.n+1 by omega)
           have ap20:=ne (show p3<K2.n+2 by omega)
           have ap21:=ne (show p3<K2.n+2+1 by omega)
           have ap22:=ne (show p3<K2.n+3 by omega)
           have ap23:=ne (show p3<K2.n+4 by omega)
           have ap24:=ne (show p3<K2.n+4+1 by omega)
           have ap25:=ne (show p3<K2.n+5 by omega)
           have ap26:=ne (show p4<K.n by omega)
           have ap27:=ne (show p4<K2.n by omega)
           have ap28:=ne (show p4<K2.n+1 by omega)
           have ap29:=ne (show p4<K2.n+2 by omega)
           have ap30:=ne (show p4<K2.n+2+1 by omega)
           have ap31:=ne (show p4<K2.n+3 by omega)
           have ap32:=ne (show p4<K2.n+4 by omega)
           have ap33:=ne (show p4<K2.n+4+1 by omega)
           have ap34:=ne (show p4<K2.n+5 by omega)
           have ap35:=ne (show p5<K.n by omega)
           have ap36:=ne (show p5<K2.n by omega)
           have ap37:=ne (show p5<K2.n+1 by omega)
           have ap38:=ne (show p5<K2.n+2 by omega)
           have ap39:=ne (show p5<K2.n+2+1 by omega)
           have ap40:=ne (show p5<K2.n+3 by omega)
           have ap41:=ne (show p5<K2.n+4 by omega)
           have ap42:=ne (show p5<K2.n+4+1 by omega)
           have ap43:=ne (show p5<K2.n+5 by omega)
           simp (config:={ decide:=true }) [pre_rb4,List.elem_eq_mem,s1,s2,s3,ht2,x10',w1,o1,o2,o3,o4,o5,o6,ap0,ap1,ap2,ap3,ap4,ap5,ap6,ap7,ap8,ap9,ap10,ap11,ap12,ap13,ap14,ap15,ap16,ap17,ap18,ap19,ap20,ap21,ap22,ap23,ap24,ap25,ap26,ap27,ap28,ap29,ap30,ap31,ap32,ap33,ap34,ap35,ap36,ap37,ap38,ap39,ap40,ap41,ap42,ap43]
           exact⟨s.procs.length - (k+1),by omega,k+1,_,_,by omega,rfl,by simp[ht2],rgo acc hra,next _ hB3.box⟩
     · have:k=s.procs.length:=by omega
       subst this
       rw[List.drop_length,rprocsB]at hres
       simp[ht1,z1,z3,z4,g10,g0]
       exact⟨T1,col,_,_,hres.symm,hB,by simp[ht1],by simp[ht1,z3],by simp[ht1,z4]⟩
   · rintro t1 K1 hk1 ⟨T',col',nd,np,hok,hB,ht1,z3,z4⟩
     have gr:=hB.res
     have tr:=Heap.lt_of_get gr (by simp)
     obtain⟨x1,x2,x3,x4,x5,x6,hT,_⟩:=hB.tab
     have ttK:H.n+2<K1.n:=Heap.lt_of_get hT.obj (by simp)
     simp[ht1,z3,z4,gr,tr]
     rw[hok]
     have kS:Same (fun i=>i=H.n+1) K1 (K1.set (H.n+1) (.row true 0 1 [.int .i64 0,.int .i64 0])):=Same.set (X:=fun i=>i=H.n+1) K1 tr rfl _
     exact⟨hB.same.then_set tr (.inr (by omega)) _,col',H.n+2,_,_,_,_,_,_,rfl,hT.keep kS (fun i hi=>by rw[hi];exact hB.zero _ (Nat.le_refl _)),fun i hi=>hB.zero i (by omega)⟩
end
def nmV (o:Option Nm):Value:=(o.map Nm.v).getD zN
def inV (o:Option Int):Value := .int .i64 (o.getD 0)
theorem inV_eq (o:Option Int):(o.map vI).getD (.int .i64 0)=inV o:=by cases o<;>rfl
theorem nmV_three (o:Option Nm):∃ a b c,nmV o = .agg ⟨[.int .i64 a,.int .i64 b,.int .i64 c]⟩:=nm_three o
def localsAt (T:Tab)(i:Int):List (ByteArray × Int):=if i<0 then []else (T.locals[i.toNat]?).getD []
def paramAt (T:Tab)(i:Int):Int:=if i<0 then 0 else (T.params[i.toNat]?).getD 0
section
variable {E:Hooks} (hE:Plain E)
include hE
theorem c_sGlobal (args:List Value)(H:Heap):(run Tryz.prog E).call 100 args H=callB Tryz.prog E Tryz.f100 args H:=call_B Tryz.func100 rfl (by decide +kernel) (hE.no _ rfl rfl) args H
theorem c_sProcN (args:List Value)(H:Heap):(run Tryz.prog E).call 101 args H=callB Tryz.prog E Tryz.f101 args H:=call_B Tryz.func101 rfl (by decide +kernel) (hE.no _ rfl rfl) args H
theorem c_sLocal (args:List Value)(H:Heap):(run Tryz.prog E).call 99 args H=callB Tryz.prog E Tryz.f99 args H:=call_B Tryz.func99 rfl (by decide +kernel) (hE.no _ rfl rfl) args H
theorem c_sParams (args:List Value)(H:Heap):(run Tryz.prog E).call 98 args H=callB Tryz.prog E Tryz.f98 args H:=call_B Tryz.func98 rfl (by decide +kernel) (hE.no _ rfl rfl) args H
variable {H:Heap} {col:Nat→Nat} {tid nid pid rid:Nat} {v1 v2 v3 v4 v5:Value} {T:Tab} (h:RTab H col tid nid pid rid v1 v2 v3 v4 v5 T)
include h
theorem global_run (x:ByteArray):∃ H',(run Tryz.prog E).call 100 [.pointer (some ⟨tid,0,none⟩),.string x] H=some (.val (.tuple #[nmV (findP x T.names),.bool (findP x T.names).isSome]),H')∧Same (fun _=>False) H H':=by
 suffices key:Gives ((run Tryz.prog E).call 100 [.pointer (some ⟨tid,0,none⟩),.string x] H) fun o H'=>o = .val (.tuple #[nmV (findP x T.names),.bool (findP x T.names).isSome])∧Same (fun _=>False) H H' by
  obtain⟨o,H',e,rfl,k⟩:=key
  exact⟨H',e,k⟩
 have lt:=h.lt
 have g0:∀ o:AObj,(H.push o).get tid=_:=fun o=>(Same.push (fun _=>False) H o).at h.obj (by simp) (fun h=>h)
 have f1:=fun o:AObj=>look_names (H:=H.push o) (nid:=nid) (l:=T.names) ((Same.push (fun _=>False) H o).at h.nm (by simp) (fun h=>h)) x
 obtain⟨a,b,c,e1⟩:=nmV_three (findP x T.names)
 have e1':((findP x T.names).map Nm.v).getD zN=_:=e1
 rw[e1']at f1
 rw[e1]
 rw[c_sGlobal hE,callB,bodyOf]
 simp[Tryz.f100,g0,f1]
 exact ((Same.push (fun _=>False) H _).then_push _).then_set (by simp) (.inr (by simp)) _
theorem procN_run (x:ByteArray):∃ H',(run Tryz.prog E).call 101 [.pointer (some ⟨tid,0,none⟩),.string x] H=some (.val (.tuple #[inV (findP x T.procs),.bool (findP x T.procs).isSome]),H')∧Same (fun _=>False) H H':=by
 suffices key:Gives ((run Tryz.prog E).call 101 [.pointer (some ⟨tid,0,none⟩),.string x] H) fun o H'=>o = .val (.tuple #[inV (findP x T.procs),.bool (findP x T.procs).isSome])∧H'=H by
  obtain⟨o,H',e,rfl,rfl⟩:=key
  exact⟨_,e,Same.refl _ _⟩
 have g0:=h.obj
 have f1:=look_ints h.pm x
 rw[inV_eq]at f1
 unfold inV at f1 ⊢
 rw[c_sProcN hE,callB,bodyOf]
 simp[Tryz.f101,g0,f1]
theorem look_loc {w:Value}{l:List (ByteArray × Int)}(hl:(w = .map none∧l=[])∨∃ id,w = .map (some id)∧H.get id = .map (ents vI l))(x:ByteArray) :
  exLookup Tryz.prog 100 w (.string x) true H=some (.tuple #[inV (findP x l),.bool (findP x l).isSome])∧exLen Tryz.prog [100] w H=some (.int .i64 l.length):=by
 have _:=hE
 have _:=h
 rcases hl with⟨rfl,rfl⟩ | ⟨id,rfl,hg⟩
 · exact⟨by simp[exLookup,keyKind,findP,inV],by simp[exLen]⟩
 · have:=look_ints hg x
   rw[inV_eq]at this
   exact⟨this,len_ints hg⟩
theorem local_run (i:Int)(x:ByteArray)(hi:T.locals.length≤1000):∃ H',(run Tryz.prog E).call 99 [.pointer (some ⟨tid,0,none⟩),.int .i64 i,.string x] H=some (.val (.tuple #[inV (findP x (localsAt T i)),.bool (findP x (localsAt T i)).isSome]),H')∧Same (fun _=>False) H H':=by
 suffices key:Gives ((run Tryz.prog E).call 99 [.pointer (some ⟨tid,0,none⟩),.int .i64 i,.string x] H) fun o H'=>o = .val (.tuple #[inV (findP x (localsAt T i)),.bool (findP x (localsAt T i)).isSome])∧H'=H by
  obtain⟨o,H',e,rfl,rfl⟩:=key
  exact⟨_,e,Same.refl _ _⟩
 have g0:=h.obj
 obtain⟨b1,rfl⟩:=repLoc.G_slice h.g1
 rw[c_sLocal hE,callB,bodyOf]
 unfold localsAt
 by_cases h0:i<0
 · simp[Tryz.f99,g0,h0,findP,inV]
 · obtain⟨n,rfl⟩:∃ n:Nat,i=n:=⟨i.toNat,by omega⟩
   rw[if_neg h0,show ((n:Int).toNat)=n from rfl]
   by_cases h1:n<T.locals.length
   · have h1':¬(T.locals.length:Int)≤n:=by omega
     obtain⟨id,tl,cs,e1,_,_,hrow,hcl,hget,hle⟩:=repLoc.G_at h.g1 h1
     cases e1
     rw[List.getElem?_eq_getElem h1,Option.getD_some]
     generalize T.locals[n]=l at *
     simp only[repLoc,Nat.mul_one]at hget hcl hle hrow
     have hw:∃ w,cs[n]? = some w∧((w = .map none∧l=[])∨∃ id,w = .map (some id)∧H.get id = .map (ents vI l)):=by
      rcases hget with⟨e,e'⟩ | ⟨id,e,_,hg⟩
      · exact⟨.map none,by have:=congrArg (fun q=>q[0]?) e;simpa using this,.inl ⟨rfl,e'⟩⟩
      · exact⟨.map (some id),by have:=congrArg (fun q=>q[0]?) e;simpa using this,.inr ⟨id,rfl,hg⟩⟩
     obtain⟨w,hw1,hw2⟩:=hw
     have lk:=(look_loc hE h hw2 x).1
     have hw3:cs[n]'(by omega)=w:=(List.getElem?_eq_some_iff.1 hw1).2
     have htk:List.take 1 (List.drop n cs)=[w]:=by
      rw[List.drop_eq_getElem_cons (by omega),List.take_succ_cons,hw3];simp
     unfold inV at lk ⊢
     have hww:isTuple w=false∧w.cells.toList=[w]:=by rcases hw2 with⟨rfl,_⟩ | ⟨id,rfl,_⟩<;>exact⟨rfl,rfl⟩
     simp[Tryz.f99,g0,h0,h1,h1',hrow,hcl,hle,hw1,hw3,htk,hww,lk]
   · have h1':(T.locals.length:Int)≤n:=by omega
     rw[List.getElem?_eq_none (by omega)]
     simp[Tryz.f99,g0,h0,h1,h1',findP,inV]
theorem params_run (i:Int):∃ H',(run Tryz.prog E).call 98 [.pointer (some ⟨tid,0,none⟩),.int .i64 i] H=some (.val (.int .i64 (paramAt T i)),H')∧Same (fun _=>False) H H':=by
 suffices key:Gives ((run Tryz.prog E).call 98 [.pointer (some ⟨tid,0,none⟩),.int .i64 i] H) fun o H'=>o = .val (.int .i64 (paramAt T i))∧H'=H by
  obtain⟨o,H',e,rfl,rfl⟩:=key
  exact⟨_,e,Same.refl _ _⟩
 have g0:=h.obj
 obtain⟨b1,rfl⟩:=repInt.G_slice h.g2
 rw[c_sParams hE,callB,bodyOf]
 unfold paramAt
 by_cases h0:i<0
 · simp[Tryz.f98,g0,h0]
 · obtain⟨n,rfl⟩:∃ n:Nat,i=n:=⟨i.toNat,by omega⟩
   rw[if_neg h0,show ((n:Int).toNat)=n from rfl]
   by_cases h1:n<T.params.length
   · have h1':¬(T.params.length:Int)≤n:=by omega
     obtain⟨id,tl,cs,e1,_,_,hrow,hcl,hget,hle⟩:=repInt.G_at h.g2 h1
     cases e1
     rw[List.getElem?_eq_getElem h1,Option.getD_some]
     generalize T.params[n]=l at *
     simp only[repInt,Nat.mul_one]at hget hcl hle hrow
     have hw1:cs[n]? = some (.int .i64 l):=by have:=congrArg (fun q=>q[0]?) hget;simpa using this
     have hw3:cs[n]'(by omega) = .int .i64 l:=(List.getElem?_eq_some_iff.1 hw1).2
     simp[Tryz.f98,g0,h0,h1,h1',hrow,hcl,hle,hw1,hw3,hget]
   · have h1':(T.params.length:Int)≤n:=by omega
     rw[List.getElem?_eq_none (by omega)]
     simp[Tryz.f98,g0,h0,h1,h1']
end
end Go.Vm.Scope
namespace Go.Vm
variable {α:Type}
def Rep.Pure (ρ:Rep α):Prop:=∀ (H H':Heap) (S S':Nat→Prop) a cs,ρ.R H S a cs→ρ.R H' S' a cs
theorem Rep.Pure.L {ρ:Rep α}(hp:ρ.Pure){H H':Heap}{S S':Nat→Prop}:∀ {l:List α}{cs:List Value},ρ.L H S l cs→ρ.L H' S' l cs
 | [],cs,h=>h
 | a :: l, cs, h => by
  obtain⟨c1,c2,e,h1,h2⟩:=h
  exact⟨c1,c2,e,hp _ _ _ _ _ _ h1,Rep.Pure.L hp h2⟩
end Go.Vm
namespace Go.Vm.Scope
open Go Go.Proofs Go.Vm.Parse
attribute [local simp] repCells_succ writeAt rd_Fr toList_beq gpe gpn spe gse gsn ne_r0 ne_l0 le_s0 ne_r1 ne_l1 lt_s1 le_s1 ne_r2 ne_l2 lt_s2 le_s2 ne_r3 ne_l3 lt_s3 le_s3 ne_r4 ne_l4 lt_s4 le_s4 ne_r5 ne_l5 lt_s5 le_s5 ne_r6 ne_l6 lt_s6 le_s6 ne_r7 ne_l7 lt_s7 le_s7
section
variable {E:Hooks} (hE:Plain E)
include hE
variable {H:Heap} {col:Nat→Nat} {tid nid pid rid:Nat} {v1 v2 v3 v4 v5:Value} {T:Tab} (h:RTab H col tid nid pid rid v1 v2 v3 v4 v5 T) (hok:TOK T)
include h hok
end
def idxF (x:ByteArray):Nat→List ByteArray→Option Nat
 | _,[]=>none
 | k,y :: l=>if y=x then some k else idxF x (k+1) l
def celF:Int→List Nm→List Cel
 | _,[]=>[]
 | a,m :: l=>if clsP m.kind=3 then ⟨a,m.size⟩ :: celF (a+max m.size 1) l else celF a l
def ofF (k:Int):List (Nm × Int)→List Int
 | []=>[]
 | (m,v) :: l=>if m.kind=k then v :: ofF k l else ofF k l
structure ROK (R:RT):Prop where
 n1:R.means.length=R.names.length
 n2:R.values.length=R.names.length
 n3:R.heads.length=R.procs.length
 n4:R.locals.length=R.procs.length
 l1:R.names.length≤100000
 l2:R.procs.length≤100000
 l3:∀ l∈R.locals,l.length≤100000
 sz:∀ m∈R.means,0≤m.size∧m.size≤64
theorem getc {α:Type}{l:List α}{k:Nat}{w:α}(h:List.take 1 (List.drop k l)=[w]):l[k]? = some w:=by
 have:=congrArg (fun q=>q[0]?) h
 simpa using this
theorem str_cell {H:Heap}{S:Nat→Prop}{v:Value}{l:List ByteArray}(g:repStr.G H S v l){k:Nat}(hk:k<l.length):∃ id tl cs,v = .slice (some ⟨id,0,none⟩) l.length l.length∧H.get id = .row true tl 1 cs∧cs.length=l.length∧∃ h:k<cs.length,cs[k]'h = .string l[k]:=by
 obtain⟨id,tl,cs,e1,_,_,hrow,hcl,hget,hle⟩:=repStr.G_at g hk
 simp only[repStr,Nat.mul_one]at hget hcl hrow
 exact⟨id,tl,cs,e1,hrow,hcl,by omega,(List.getElem?_eq_some_iff.1 (getc hget)).2⟩
theorem int_cell {H:Heap}{S:Nat→Prop}{v:Value}{l:List Int}(g:repInt.G H S v l){k:Nat}(hk:k<l.length):∃ id tl cs,v = .slice (some ⟨id,0,none⟩) l.length l.length∧H.get id = .row true tl 1 cs∧cs.length=l.length∧∃ h:k<cs.length,cs[k]'h = .int .i64 l[k]:=by
 obtain⟨id,tl,cs,e1,_,_,hrow,hcl,hget,hle⟩:=repInt.G_at g hk
 simp only[repInt,Nat.mul_one]at hget hcl hrow
 exact⟨id,tl,cs,e1,hrow,hcl,by omega,(List.getElem?_eq_some_iff.1 (getc hget)).2⟩
theorem nm_cell {H:Heap}{S:Nat→Prop}{v:Value}{l:List Nm}(g:repNm.G H S v l){k:Nat}(hk:k<l.length):∃ id tl cs,v = .slice (some ⟨id,0,none⟩) l.length l.length∧H.get id = .row true tl 3 cs∧cs.length=l.length * 3∧k * 3+3≤l.length * 3 ∧
  (cs.drop (k * 3)).take 3=[.int .i64 l[k].kind,.int .i64 l[k].index,.int .i64 l[k].size]∧(∃ h:k * 3<cs.length,cs[k * 3]'h = .int .i64 l[k].kind)∧∃ h:k * 3+2<cs.length,cs[k * 3+2]'h = .int .i64 l[k].size:=by
 obtain⟨id,tl,cs,e1,_,_,hrow,hcl,hget,hle⟩:=repNm.G_at g hk
 simp only[repNm]at hget hcl hrow hle
 refine⟨id,tl,cs,e1,hrow,hcl,hle,hget,⟨by omega,?_⟩,⟨by omega,?_⟩⟩
 · have:cs[k * 3]? = some (.int .i64 l[k].kind):=by
    have:=congrArg (fun q=>q[0]?) hget
    simpa using this
   exact (List.getElem?_eq_some_iff.1 this).2
 · have:cs[k * 3+2]? = some (.int .i64 l[k].size):=by
    have:=congrArg (fun q=>q[2]?) hget
    simpa using this
   exact (List.getElem?_eq_some_iff.1 this).2
section
variable {E:Hooks} (hE:Plain E)
include hE
theorem c_rGlobal (args:List Value)(H:Heap):(run Tryz.prog E).call 85 args H=callB Tryz.prog E Tryz.f85 args H:=call_B Tryz.func85 rfl (by decide +kernel) (hE.no _ rfl rfl) args H
theorem c_rProcN (args:List Value)(H:Heap):(run Tryz.prog E).call 86 args H=callB Tryz.prog E Tryz.f86 args H:=call_B Tryz.func86 rfl (by decide +kernel) (hE.no _ rfl rfl) args H
theorem c_rLocal (args:List Value)(H:Heap):(run Tryz.prog E).call 84 args H=callB Tryz.prog E Tryz.f84 args H:=call_B Tryz.func84 rfl (by decide +kernel) (hE.no _ rfl rfl) args H
theorem c_rParams (args:List Value)(H:Heap):(run Tryz.prog E).call 103 args H=callB Tryz.prog E Tryz.f103 args H:=call_B Tryz.func103 rfl (by decide +kernel) (hE.no _ rfl rfl) args H
variable {H:Heap} {col:Nat→Nat} {tid:Nat} {v1 v2 v3 v4 v5 v6:Value} {R:RT} (h:RRef H col tid v1 v2 v3 v4 v5 v6 R) (hok:ROK R)
include h hok
theorem rglobal_run (x:ByteArray):∃ H',(run Tryz.prog E).call 85 [.pointer (some ⟨tid,0,none⟩),.string x] H=some (.val (.tuple #[nmV (findP x (R.names.zip R.means)),.bool (findP x (R.names.zip R.means)).isSome]),H')∧Same (fun _=>False) H H':=by
 suffices key:Gives ((run Tryz.prog E).call 85 [.pointer (some ⟨tid,0,none⟩),.string x] H) fun o H'=>o = .val (.tuple #[nmV (findP x (R.names.zip R.means)),.bool (findP x (R.names.zip R.means)).isSome])∧Same (fun _=>False) H H' by
  obtain⟨o,H',e,rfl,k⟩:=key
  exact⟨H',e,k⟩
 have kp:=Same.push (fun _=>False) H (.row true 0 1 [.int .i64 0,.int .i64 0,.int .i64 0])
 have hp:=h.keep kp (fun _ h=>h.elim)
 have lt:=Heap.lt_of_get h.obj (by simp)
 have g0:=hp.obj
 have gz:(H.push (.row true 0 1 [.int .i64 0,.int .i64 0,.int .i64 0])).get H.n=_:=Heap.get_push_self _ _
 have gn:H.n<(H.push (.row true 0 1 [.int .i64 0,.int .i64 0,.int .i64 0])).n:=Nat.lt_succ_self _
 obtain⟨b1,rfl⟩:=repStr.G_slice h.g1
 simp only[rt6]at g0
 rw[c_rGlobal hE,callB,bodyOf]
 simp[Tryz.f85]
 generalize hK:H.push (.row true 0 1 [.int .i64 0,.int .i64 0,.int .i64 0])=K at *
 refine loop_mid2 (fun t K'=>K'=K∧findP x (R.names.zip R.means)=none) (fun m t K'=>K'=K∧∃ k,k≤R.names.length∧m=R.names.length - k∧rd t 6 = .int .i64 k∧findP x (R.names.zip R.means)=findP x ((R.names.zip R.means).drop k)) R.names.length ?_ ?_ ?_
 · exact⟨rfl,0,Nat.zero_le _,by simp,by simp,by simp⟩
 · rintro m t _ hk ⟨rfl,k,hkl,rfl,g6,hf⟩
   have ht:t.length=33:=hk.1.trans (by simp[len_Bs])
   have hh:=hk.all [0,1,4] (by decide +kernel)
   simp at hh
   obtain⟨u0,u1,u4⟩:=hh
   rcases Nat.lt_or_ge k R.names.length with hlt | hge
   · obtain⟨id,tl,cs,e1,hrow,hcl,hk1,hc1⟩:=str_cell hp.g1 hlt
     cases e1
     have hlt2:k<R.means.length:=by have:=hok.n1;omega
     obtain⟨id2,tl2,cs2,e2,hrow2,hcl2,hle2,hget2,_⟩:=nm_cell hp.g2 hlt2
     subst e2
     have hz:(R.names.zip R.means).drop k=(R.names[k],R.means[k]) :: (R.names.zip R.means).drop (k+1):=by
      rw[List.drop_eq_getElem_cons (by rw[List.length_zip];omega),List.getElem_zip]
     rw[hz,findP]at hf
     generalize R.names[k]=y at *
     generalize R.means[k]=mm at *
     have w1:IntKind.i64.wrap ((k:Int)+1)=(k:Int)+1:=wrap64 _ (by omega) (by have:=hok.l1;omega)
     by_cases hy:y=x
     · subst hy
       rw[if_pos rfl]at hf
       rw[hf]
       simp[ht,u0,u1,u4,g6,hlt,hlt2,g0,hrow,hcl,hc1,hrow2,hcl2,hle2,hget2,gz,gn,nmV,Nm.v]
       exact kp.then_set gn (.inr (Nat.le_refl _)) _
     · rw[if_neg hy]at hf
       simp[ht,u0,u1,u4,g6,hlt,g0,hrow,hcl,hc1,hy,w1]
       exact⟨R.names.length - (k+1),by omega,k+1,by omega,rfl,by simp[ht],hf⟩
   · simp[ht,u0,u1,u4,g6,g0,show ¬k<R.names.length by omega]
     rw[hf,List.drop_eq_nil_of_le (by rw[List.length_zip];omega)]
     rfl
 · rintro t _ hk ⟨rfl,hf⟩
   have ht:t.length=33:=hk.1.trans (by simp[len_Bs])
   have hh:=hk.all [0,1,4] (by decide +kernel)
   simp at hh
   obtain⟨u0,u1,u4⟩:=hh
   rw[hf]
   simp[ht,u0,u1,u4,gz,gn,nmV,zN]
   exact kp.then_set gn (.inr (Nat.le_refl _)) _
def rIdx (o:Option Nat)(d:Int):Value := .int .i64 (match o with | some n=>(n:Int)+d | none=>0)
theorem rprocN_run (x:ByteArray):(run Tryz.prog E).call 86 [.pointer (some ⟨tid,0,none⟩),.string x] H=some (.val (.tuple #[rIdx (idxF x 0 R.procs) 1,.bool (idxF x 0 R.procs).isSome]),H):=by
 suffices key:Gives ((run Tryz.prog E).call 86 [.pointer (some ⟨tid,0,none⟩),.string x] H) fun o H'=>o = .val (.tuple #[rIdx (idxF x 0 R.procs) 1,.bool (idxF x 0 R.procs).isSome])∧H'=H by
  obtain⟨o,H',e,rfl,rfl⟩:=key
  exact e
 have g0:=h.obj
 obtain⟨b1,rfl⟩:=repStr.G_slice h.g3
 simp only[rt6]at g0
 rw[c_rProcN hE,callB,bodyOf]
 simp[Tryz.f86]
 refine loop_mid2 (fun t K'=>K'=H∧idxF x 0 R.procs=none) (fun m t K'=>K'=H∧∃ k,k≤R.procs.length∧m=R.procs.length - k∧rd t 6 = .int .i64 k∧idxF x 0 R.procs=idxF x k (R.procs.drop k)) R.procs.length ?_ ?_ ?_
 · exact⟨rfl,0,Nat.zero_le _,by simp,by simp,by simp⟩
 · rintro m t _ hk ⟨rfl,k,hkl,rfl,g6,hf⟩
   have ht:t.length=27:=hk.1.trans (by simp[len_Bs])
   have hh:=hk.all [0,1] (by decide +kernel)
   simp at hh
   obtain⟨u0,u1⟩:=hh
   rcases Nat.lt_or_ge k R.procs.length with hlt | hge
   · obtain⟨id,tl,cs,e1,hrow,hcl,hk1,hc1⟩:=str_cell h.g3 hlt
     cases e1
     rw[List.drop_eq_getElem_cons hlt,idxF]at hf
     generalize R.procs[k]=y at *
     have w1:IntKind.i64.wrap ((k:Int)+1)=(k:Int)+1:=wrap64 _ (by omega) (by have:=hok.l2;omega)
     by_cases hy:y=x
     · subst hy
       rw[if_pos rfl]at hf
       rw[hf]
       simp[ht,u0,u1,g6,hlt,g0,hrow,hcl,hc1,w1,rIdx]
     · rw[if_neg hy]at hf
       simp[ht,u0,u1,g6,hlt,g0,hrow,hcl,hc1,hy,w1]
       exact⟨R.procs.length - (k+1),by omega,k+1,by omega,rfl,by simp[ht],hf⟩
   · simp[ht,u0,u1,g6,g0,show ¬k<R.procs.length by omega]
     rw[hf,List.drop_eq_nil_of_le (by omega)]
     rfl
 · rintro t _ hk ⟨rfl,hf⟩
   have ht:t.length=27:=hk.1.trans (by simp[len_Bs])
   rw[hf]
   simp[ht,rIdx]
end
end Go.Vm.Scope
