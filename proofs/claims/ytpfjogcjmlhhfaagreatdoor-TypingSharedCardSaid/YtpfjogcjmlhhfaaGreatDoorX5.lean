/- What is defined and proved: the reader of bytes, by what is left of the text. What is proved: the reader's statements for any fuel; its 'size'. What is defined and proved: declarations; the reader's 'decls'. What is defined and proved: procedures in plain words, and in the heap; the reader's 'proc'. What is proved: the reader's 'proc'. What is defined and proved: sources in plain words, and in the heap; 'Parse'. What is proved: 'Parse', of any source that is no longer than may be. What is proved: the readers of bytes, expressions, statements and sources answer, given steps enough. What is defined and proved: how whatever was read without a fault is made: which parts each kind of thing has. What is defined and proved: how much there is in what is read, and that it is no more than the tokens that were read; how a source is made that was read without a fault. What is defined and proved: when two sources are the same, but for their places; how much there is in one; lists that are only read. What is proved: the reference's comparison of lists of items, names, expressions, statements, and of sources. What is defined and proved: what names mean, in plain words and in the heap. What is proved: whether a name is known; what a kind declares. What is proved: what a declaration does to a table. What is proved: the four declarations' 'into'. What is proved: 'into' of variables, shared ones and all. What is defined and proved: 'Build' in plain words; what a table always is. What is proved: 'Build', if its 'proc' does what it must. What is proved: lists of names, one behind the other ('slices.Concat'). What is proved: a table's 'proc'. What is defined and proved: the reference's table of names, in plain words and in the heap; its small functions. What is defined and proved: the reference's 'Build', in plain words; its walk. -/
import Derived.Test.YtpfjogcjmlhhfaaGreatDoorX4
set_option maxRecDepth 100000
set_option maxHeartbeats 4000000
set_option linter.unusedSimpArgs false
set_option linter.unusedVariables false
set_option linter.unusedSectionVars false
namespace Go.Vm.Parse
open Go Go.Proofs
theorem lexStep_to {src:List UInt8}{a:Nat}(h:a<src.length){c:UInt8}{to:Nat}{t:Option Tk}(e:lexStep src a c = .more to t):a<to∧to≤src.length:=by
 have sp:∀ p,a+1≤spanTo p src (a+1)∧spanTo p src (a+1)≤src.length:=fun p=>spanTo_le (by omega)
 unfold lexStep at e
 split at e
 · cases e;omega
 split at e
 · split at e
   · cases e
   · rename_i h2;cases e;have:=sp (fun b => !decide (b.toNat=125));omega
 split at e
 · cases e;omega
 split at e
 · have:=sp nameB
   split at e
   · cases e;omega
   split at e
   · cases e
   · cases e;omega
 split at e
 · have:=sp digitB
   split at e
   · cases e
   · cases e;omega
 split at e
 · cases e
 · rename_i h2
   cases e
   have h3:=signP_le (src.drop a)
   rw[List.length_drop]at h3
   omega
theorem lex_ans (src:List UInt8):∀ n a out,a≤src.length→src.length<a+n→∃ r,lexFrom src n a out=some r
 | 0,a,out,h1,h2=>by omega
 | n + 1, a, out, h1, h2 => by
  rw[lexFrom]
  split
  · rename_i h
    cases e:lexStep src a src[a]with
    | bad c p=>exact⟨_,rfl⟩
    | more to t =>
     have:=lexStep_to h e
     cases t with
     | none=>exact lex_ans src n to out (by omega) (by omega)
     | some t=>exact lex_ans src n to (out++[t]) (by omega) (by omega)
  · exact⟨_,rfl⟩
theorem lexFrom_len {src:List UInt8}:∀ {n a:Nat}{out l:List Tk},lexFrom src n a out=some (.inl l)→l.length≤out.length+n
 | 0,_,_,_,h=>by cases h
 | n + 1, a, out, l, h => by
  rw[lexFrom]at h
  split at h
  · split at h
    · cases h
    · have:=lexFrom_len h;omega
    · have:=lexFrom_len h;simp at this;omega
  · cases h;simp
theorem lexFrom_bad {src:List UInt8}:∀ {n a:Nat}{out:List Tk}{c p:Int},lexFrom src n a out=some (.inr (c,p))→c≠0
 | 0,_,_,_,_,h=>by cases h
 | n + 1, a, out, c, p, h => by
  rw[lexFrom]at h
  split at h
  · split at h
    · rename_i e
      cases h
      unfold lexStep at e
      split at e
      · cases e
      · split at e
        · split at e
          · cases e;omega
          · cases e
        · split at e
          · cases e
          · split at e
            · split at e
              · cases e
              · split at e
                · cases e;omega
                · cases e
            · split at e
              · split at e
                · cases e;omega
                · cases e
              · split at e
                · cases e;omega
                · cases e
    · exact lexFrom_bad h
    · exact lexFrom_bad h
  · cases h
inductive LT where
 | more (k:Nat) (t:Option Tk)
 | bad (c a:Int)
def stepL (c:UInt8)(l:List UInt8)(a:Nat):LT :=
 if c.toNat=32∨c.toNat=9∨c.toNat=10∨c.toNat=13 then .more 1 none
 else if c.toNat=123 then
  if (l.takeWhile fun b => !decide (b.toNat=125)).length=l.length then .bad 11 a else .more ((l.takeWhile fun b => !decide (b.toNat=125)).length+2) none
 else if c.toNat=80∨c.toNat=86 then .more 1 (some ⟨3,a,0,⟨⟨[c]⟩⟩⟩)
 else if letterB c=true then
  if isWord ⟨⟨c :: l.takeWhile nameB⟩⟩=true then .more ((l.takeWhile nameB).length+1) (some ⟨3,a,0,⟨⟨c :: l.takeWhile nameB⟩⟩⟩)
  else if 12<(l.takeWhile nameB).length+1 then .bad 12 a
  else .more ((l.takeWhile nameB).length+1) (some ⟨1,a,0,⟨⟨c :: l.takeWhile nameB⟩⟩⟩)
 else if digitB c=true then
  match numFrom (c :: l.takeWhile digitB) 0 with
  | none => .bad 13 a
  | some n => .more ((l.takeWhile digitB).length+1) (some ⟨2,a,n,ByteArray.empty⟩)
 else if signP (c :: l)=0 then .bad 11 a
 else .more (signP (c :: l)) (some ⟨4,a,0,⟨⟨(c :: l).take (signP (c :: l))⟩⟩⟩)
def LT.at_ (a:Nat):LT→LS
 | .more k t => .more (a+k) t
 | .bad c p => .bad c p
theorem take_while (p:UInt8→Bool)(l:List UInt8):l.take (l.takeWhile p).length=l.takeWhile p:=(List.prefix_iff_eq_take.1 (List.takeWhile_prefix p)).symm
theorem lexStep_L {src:List UInt8}{a:Nat}{c:UInt8}{l:List UInt8}(h:src.drop a=c :: l):lexStep src a c=(stepL c l a).at_ a:=by
 have h1:src.drop (a+1)=l:=by rw[← List.drop_drop,h];rfl
 have hlen:src.length=a+1+l.length:=by
  have:=congrArg List.length h
  simp at this
  omega
 have hs:∀ p,spanTo p src (a+1)=a+((l.takeWhile p).length+1):=fun p=>by unfold spanTo;rw[h1];omega
 have hc:∀ p,cutB src a (a+((l.takeWhile p).length+1))=⟨⟨c :: l.takeWhile p⟩⟩:=fun p=>by
  unfold cutB
  rw[h,show a+((l.takeWhile p).length+1) - a=(l.takeWhile p).length+1 by omega,List.take_succ_cons,take_while]
 have hc1:cutB src a (a+1)=⟨⟨[c]⟩⟩:=by
  unfold cutB
  rw[h,show a+1 - a=1 by omega];rfl
 have hc2:∀ k,cutB src a (a+k)=⟨⟨(c :: l).take k⟩⟩:=fun k=>by
  unfold cutB
  rw[h,show a+k - a=k by omega]
 unfold lexStep stepL
 by_cases c1:c.toNat=32∨c.toNat=9∨c.toNat=10∨c.toNat=13
 · rw[if_pos c1,if_pos c1];rfl
 rw[if_neg c1,if_neg c1]
 by_cases c2:c.toNat=123
 · rw[if_pos c2,if_pos c2,hs]
   by_cases c3:(l.takeWhile fun b => !decide (b.toNat=125)).length=l.length
   · rw[if_pos (by omega),if_pos c3];rfl
   · rw[if_neg (by omega),if_neg c3];rfl
 rw[if_neg c2,if_neg c2]
 by_cases c3:c.toNat=80∨c.toNat=86
 · rw[if_pos c3,if_pos c3,hc1];rfl
 rw[if_neg c3,if_neg c3]
 by_cases c4:letterB c=true
 · rw[if_pos c4,if_pos c4,hs,hc]
   by_cases c5:isWord ⟨⟨c :: l.takeWhile nameB⟩⟩=true
   · rw[if_pos c5,if_pos c5];rfl
   rw[if_neg c5,if_neg c5]
   by_cases c6:12<(l.takeWhile nameB).length+1
   · rw[if_pos (by omega),if_pos c6];rfl
   · rw[if_neg (by omega),if_neg c6];rfl
 rw[if_neg c4,if_neg c4]
 by_cases c5:digitB c=true
 · rw[if_pos c5,if_pos c5,hs,h,show a+((l.takeWhile digitB).length+1) - a=(l.takeWhile digitB).length+1 by omega,List.take_succ_cons,take_while]
   cases numFrom (c :: l.takeWhile digitB) 0<;>rfl
 rw[if_neg c5,if_neg c5,h]
 by_cases c6:signP (c :: l)=0
 · rw[if_pos c6,if_pos c6];rfl
 · rw[if_neg c6,if_neg c6,hc2];rfl
def Lx (l:List UInt8)(a:Nat)(toks:List Tk):Prop:=∀ src out n,src.drop a=l→a≤src.length→src.length<a+n→lexFrom src n a out=some (.inl (out++toks))
theorem Lx.nil (a:Nat):Lx [] a [⟨5,a,0,ByteArray.empty⟩]:=by
 intro src out n h1 h2 h3
 have:=congrArg List.length h1
 simp at this
 obtain⟨m,rfl⟩:∃ m,n=m+1:=⟨n - 1,by omega⟩
 rw[lexFrom,dif_neg (by omega),show src.length=a by omega]
theorem Lx.step {c:UInt8}{l:List UInt8}{a k:Nat}{t:Option Tk}{toks:List Tk}(e:stepL c l a = .more k t)(h:Lx ((c :: l).drop k) (a+k) toks):Lx (c :: l) a (t.toList++toks):=by
 intro src out n h1 h2 h3
 obtain⟨m,rfl⟩:∃ m,n=m+1:=⟨n - 1,by have:=congrArg List.length h1;simp at this;omega⟩
 have hlt:a<src.length:=by have:=congrArg List.length h1;simp at this;omega
 have hc:src[a]=c:=by
  have e2:=List.drop_eq_getElem_cons hlt
  rw[h1]at e2
  injection e2 with e3;exact e3.symm
 have es:=lexStep_L h1
 rw[e]at es
 have hb:=lexStep_to hlt es
 have hd:src.drop (a+k)=(c :: l).drop k:=by rw[← h1,List.drop_drop]
 rw[lexFrom,dif_pos hlt,hc,es]
 cases t with
 | none=>exact h src out m hd hb.2 (by omega)
 | some t =>
  have:=h src (out++[t]) m hd hb.2 (by omega)
  rw[List.append_assoc]at this
  exact this
theorem Lx.all {src:List UInt8}{toks:List Tk}(h:Lx src 0 toks):lexFrom src (src.length+1) 0 []=some (.inl toks):=h src [] _ rfl (Nat.zero_le _) (by omega)
theorem Lx.blank {l:List UInt8}{a:Nat}{toks:List Tk}(h:Lx l (a+1) toks):Lx (32 :: l) a toks:=Lx.step (t:=none) (k:=1) rfl h
theorem takeWhile_app {p:UInt8→Bool}:∀ {w l:List UInt8},(∀ x∈w,p x=true)→l.takeWhile p=[]→(w++l).takeWhile p=w
 | [],l,_,h=>h
 | x :: w, l, hw, h => by
  rw[List.cons_append,List.takeWhile_cons,if_pos (hw x (by simp)),takeWhile_app (fun y hy=>hw y (by simp[hy])) h]
theorem Lx.name {c:UInt8}{w l:List UInt8}{a:Nat}{toks:List Tk}(k:Int)(hc:letterB c=true)(hw:∀ x∈w,nameB x=true)(hl:l.takeWhile nameB=[])(hk:if isWord ⟨⟨c :: w⟩⟩=true then k=3 else (w.length<12∧k=1))
  (h:Lx l (a+(w.length+1)) toks):Lx (c :: (w++l)) a (⟨k,a,0,⟨⟨c :: w⟩⟩⟩ :: toks):=by
 refine Lx.step (t:=some ⟨k,a,0,⟨⟨c :: w⟩⟩⟩) (k:=w.length+1) ?_ (by rw[List.drop_succ_cons,List.drop_left];exact h)
 have hd:97≤c.toNat∧c.toNat≤122:=by unfold letterB at hc;simpa using hc
 unfold stepL
 rw[if_neg (by omega),if_neg (by omega),if_neg (by omega),if_pos hc,takeWhile_app hw hl]
 split at hk
 · rename_i hi;subst hk;rw[if_pos hi]
 · rename_i hi;obtain⟨h1,rfl⟩:=hk;rw[if_neg hi,if_neg (by omega)]
end Go.Vm.Parse
namespace Go.Vm.Parse
open Go Go.Proofs
attribute [local simp] repCells_succ writeAt rd_Fr toList_beq gpe gpn spe gse gsn ne_r0 ne_l0 le_s0 ne_r1 ne_l1 lt_s1 le_s1 ne_r2 ne_l2 lt_s2 le_s2 ne_r3 ne_l3 lt_s3 le_s3 ne_r4 ne_l4 lt_s4 le_s4 ne_r5 ne_l5 lt_s5 le_s5 ne_r6 ne_l6 lt_s6 le_s6 ne_r7 ne_l7 lt_s7 le_s7
section
variable {E:Hooks} (hE:Plain E) {B:BrP} {r lid:Nat} {L:List Tk}
include hE
theorem st_all (hB:BLt B L)(hBr:BranOK E B r lid L):∀ n,StmtOK E B r lid L n∧StmtsOK E B r lid L n∧BlockOK E B r lid L n:=by
 intro n
 induction n using Nat.strongRecOn with
 | _ n ih =>
  have h2:=stmts_walk hE hB (n:=n) fun m hm=>(ih m hm).1
  cases n with
  | zero=>exact⟨fun _ _ _ _ h=>(by rw[stmtP]at h;cases h),h2,fun _ _ _ _ _ h=>(by rw[blockP]at h;cases h)⟩
  | succ n=>exact⟨stmt_walk hE hB hBr (ih n (by omega)).2.2,h2,block_walk hE (ih n (by omega)).2.1⟩
end
def unitS (L:List Tk)(s:PS)(q:Int × Int):PS:=if s.c=0∧(q.1<1∨64<q.1)then { s with c:=24,a:=q.2 }else s
def sizeP (L:List Tk)(s:PS):Int × PS :=
 if isP L s (b1 91)=false then (0,s)
 else ((numP L s.on).1,mustS L (unitS L (numS L s.on) (numP L s.on)) (b1 93))
theorem unitS_le (L:List Tk)(s:PS)(q:Int × Int):s.le (unitS L s q):=by
 unfold unitS
 split
 · exact⟨Nat.le_refl _,fun h=>by simp at h⟩
 · exact PS.le_refl _
theorem sizeP_le (L:List Tk)(s:PS):s.le (sizeP L s).2:=by
 unfold sizeP
 split
 · exact PS.le_refl _
 · exact (((PS.le_on s).le_trans (numS_le _ _)).le_trans (unitS_le _ _ _)).le_trans (mustS_le _ _ _)
section
variable {E:Hooks} (hE:Plain E) {r lid:Nat} {L:List Tk}
include hE
theorem size_run {H:Heap}{s:PS}(h:RD H r lid L s):∃ H',(run Tryz.prog E).call 62 [.pointer (some ⟨r,0,none⟩)] H=some (.val (.int .i64 (sizeP L s).1),H')∧Same (·=r) H H'∧RD H' r lid L (sizeP L s).2:=by
 suffices key:Gives ((run Tryz.prog E).call 62 [.pointer (some ⟨r,0,none⟩)] H) fun o H'=>o = .val (.int .i64 (sizeP L s).1)∧Same (·=r) H H'∧RD H' r lid L (sizeP L s).2 by
  obtain⟨o,H',e,rfl,k⟩:=key
  exact⟨H',e,k⟩
 have hr:=h.lt
 obtain⟨HA,eA,kA,hA⟩:=take_run hE h (b1 91)
 rw[c_size hE,callB,bodyOf]
 simp only[b1]at eA
 unfold sizeP
 by_cases c1:isP L s (b1 91)=false
 · rw[if_pos c1]
   rw[takeS_no c1]at hA
   simp only[b1]at c1
   simp[Tryz.f62,eA,c1]
   exact⟨kA,hA⟩
 rw[if_neg c1]
 have c1':isP L s (b1 91)=true:=by simpa using c1
 rw[takeS_yes c1']at hA
 obtain⟨HB,eB,kB,hB⟩:=num_run hE hA
 have eb:=bad_run hE hB
 have hobj:=hB.obj
 have hrB:=hB.lt
 generalize hq:numP L s.on=q at *
 generalize hs2:numS L s.on=s2 at *
 simp only[b1]at c1'
 have fin:∀ s3 K,Same (·=r) H K→RD K r lid L s3→∃ K',(run Tryz.prog E).call 26 [.pointer (some ⟨r,0,none⟩),.string (b1 93)] K=some (.val (.tuple #[]),K')∧Same (·=r) H K'∧RD K' r lid L (mustS L s3 (b1 93)):=by
  intro s3 K k hK
  obtain⟨K',e,k',d⟩:=must_run hE hK (b1 93)
  exact⟨K',e,k.trans k',d⟩
 by_cases c2:s2.c=0
 · by_cases c3:q.1<1
   · have hu:unitS L s2 q={ s2 with c:=24,a:=q.2 }:=by unfold unitS;rw[if_pos ⟨c2,.inl c3⟩]
     rw[hu]
     obtain⟨KD,eD,kD,hD⟩:=fin _ _ ((kA.trans kB).then_set hrB (.inl rfl) _) (hB.turn { s2 with c:=24,a:=q.2 } hB.place)
     simp only[b1]at eD
     simp[Tryz.f62,eA,c1',eB,eb,c2,c3,hobj,eD]
     exact⟨kD,hD⟩
   · by_cases c4:64<q.1
     · have hu:unitS L s2 q={ s2 with c:=24,a:=q.2 }:=by unfold unitS;rw[if_pos ⟨c2,.inr c4⟩]
       rw[hu]
       obtain⟨KD,eD,kD,hD⟩:=fin _ _ ((kA.trans kB).then_set hrB (.inl rfl) _) (hB.turn { s2 with c:=24,a:=q.2 } hB.place)
       simp only[b1]at eD
       simp[Tryz.f62,eA,c1',eB,eb,c2,c3,c4,hobj,eD]
       exact⟨kD,hD⟩
     · have hu:unitS L s2 q=s2:=by unfold unitS;rw[if_neg (by rintro⟨_,h | h⟩<;>omega)]
       rw[hu]
       obtain⟨KD,eD,kD,hD⟩:=fin _ _ (kA.trans kB) hB
       simp only[b1]at eD
       simp[Tryz.f62,eA,c1',eB,eb,c2,c3,c4,hobj,eD]
       exact⟨kD,hD⟩
 · have hu:unitS L s2 q=s2:=by unfold unitS;rw[if_neg (fun h=>c2 h.1)]
   rw[hu]
   obtain⟨KD,eD,kD,hD⟩:=fin _ _ (kA.trans kB) hB
   simp only[b1]at eD
   simp[Tryz.f62,eA,c1',eB,eb,c2,hobj,eD]
   exact⟨kD,hD⟩
end
structure Dcl where
 kind:Int
 at_:Int
 name:ByteArray
 n:Int
def dsc (k a:Int)(x:ByteArray)(n:Int):List Value:=[.int .i64 k,.int .i64 a,.string x,.int .i64 n]
def repDcl:Rep Dcl where
 k:=4
 R _ _ x cs:=cs=dsc x.kind x.at_ x.name x.n
 len h:=by subst h;rfl
 move _ _ _ _ h:=h
def tResource:ByteArray:=⟨#[114,101,115,111,117,114,99,101]⟩
def tSemaphore:ByteArray:=⟨#[115,101,109,97,112,104,111,114,101]⟩
def tShared:ByteArray:=⟨#[115,104,97,114,101,100]⟩
def tVar:ByteArray:=⟨#[118,97,114]⟩
def kindP (L:List Tk)(s:PS):Int :=
 if isP L s tResource=true then 1 else if isP L s tSemaphore=true then 2 else if isP L s tShared=true then 3 else if isP L s tVar=true then 4 else 0
def unitsP (L:List Tk)(k:Int)(s:PS):Int × PS:=if k=1∨k=2 then ((numP L s).1,numS L s)else sizeP L s
theorem unitsP_le (L:List Tk)(k:Int)(s:PS):s.le (unitsP L k s).2:=by
 unfold unitsP
 split
 · exact numS_le _ _
 · exact sizeP_le _ _
def dclP (L:List Tk)(k:Int)(s:PS):Dcl:=⟨k,(nameP L s).at_,(nameP L s).name,(unitsP L k (nameS L s)).1⟩
def dclS (L:List Tk)(k:Int)(s:PS):PS:=mustS L (unitsP L k (nameS L s)).2 tSemi
def declsL (L:List Tk):Nat→List Dcl→PS→Option (List Dcl × PS)
 | 0,_,_=>none
 | n + 1, acc, s =>
  if s.c=0 then
   if kindP L s=0 then some (acc,s)
   else declsL L n (acc++[dclP L (kindP L s) s.on]) (dclS L (kindP L s) s.on)
  else some (acc,s)
theorem dclS_lt (L:List Tk)(k:Int)(s:PS):s.le (dclS L k s):=((nameS_le L s).1.le_trans (unitsP_le _ _ _)).le_trans (mustS_le _ _ _)
theorem declsL_le {L:List Tk}:∀ {n:Nat}{acc:List Dcl}{s s':PS}{l:List Dcl},declsL L n acc s=some (l,s')→s.le s'
 | 0,_,_,_,_,h=>by cases h
 | n + 1, acc, s, s', l, h => by
  rw[declsL]at h
  split at h
  · split at h
    · cases h;exact PS.le_refl _
    · exact ((PS.le_on s).le_trans (dclS_lt _ _ _)).le_trans (declsL_le h)
  · cases h;exact PS.le_refl _
theorem tf_dcl:TF Tryz.prog 24 4:=⟨_,_,_,by simp,by simp,by simp;rfl,by omega,by simp;rfl,rfl,by omega,rfl⟩
theorem pl_decls:planOf Tryz.prog (drawN Tryz.f28 0)=some [none,none,(some (0,1)),(some (0,1)),none,none,none,none]:=by decide +kernel
def DeclsI (r lid:Nat)(L:List Tk)(H:Heap)(res:List Dcl)(s':PS)(n m:Nat)(t:List Value)(H':Heap):Prop :=
 m≤n∧∃ acc s v,declsL L m acc s=some (res,s')∧rd t 3=v∧repDcl.G H' (fun i=>H.n≤i) v acc∧At H r lid L s H'∧acc.length≤s.p
section
variable {E:Hooks} (hE:Plain E) {r lid:Nat} {L:List Tk}
include hE
theorem decls_run {n:Nat}{s s':PS}{l:List Dcl}(hx:declsL L n [] s=some (l,s')){H:Heap}(h:RD H r lid L s):Gives ((run Tryz.prog E).call 28 [.pointer (some ⟨r,0,none⟩)] H) (RetG repDcl H r lid L l s'):=by
 have hr:=h.lt
 have hl:=h.lid_lt
 have hsm:=h.small
 rw[c_decls hE,callB,bodyOf]
 simp[Tryz.f28]
 refine loop_wp (DeclsI r lid L H l s' n) n ?_ ?_
 · exact⟨Nat.le_refl n,[],_,.slice (some ⟨H.n,0,none⟩) 0 0,hx,by simp,repDcl.G_empty H (Nat.le_refl _),⟨Same.push _ _ _,h.same (Same.push _ _ _)⟩,by simp⟩
 rintro m t H' hk ⟨hmn,acc,s1,v,hxl,g3,hG,hA,hlen⟩
 have ht:t.length=60:=hk.1.trans (by simp[len_Bs])
 have hh:=hk.all [0] (by decide +kernel)
 simp at hh
 have eb:=bad_run hE hA.rd
 have nS:=hA.n
 cases m with
 | zero=>cases hxl
 | succ m =>
 rw[declsL]at hxl
 by_cases hc:s1.c=0
 · rw[if_pos hc]at hxl
   have l0:Loc H r lid L H'.n s1 (dsc 0 0 ByteArray.empty 0) (H'.push (.row true 0 1 (dsc 0 0 ByteArray.empty 0))) :=
    ⟨hA.push _,Heap.get_push_self _ _,by simp,nS,hr,hl⟩
   have hvr:∀ i,vid v i→i<H'.n∧H.n≤i:=fun i hi=>repDcl.G_lt hG hi
   have tail:∀ (k:Int) (K:Heap),kindP L s1=k→¬k=0→Loc H r lid L H'.n s1.on (dsc k 0 ByteArray.empty 0) K→repDcl.G K (fun i=>H.n≤i∧i≠H'.n) v acc →
     ∃ KA KC KD v' KE,(run Tryz.prog E).call 27 [.pointer (some ⟨r,0,none⟩)] K=some (.val (.agg ⟨[.int .i64 (nameP L s1.on).at_,.string (nameP L s1.on).name]⟩),KA)∧H'.n<KA.n∧KA.get H'.n = .row true 0 1 (dsc k 0 ByteArray.empty 0) ∧
      (k=1∨k=2→(run Tryz.prog E).call 61 [.pointer (some ⟨r,0,none⟩)] ((KA.push (.row true 0 1 [.int .i64 (nameP L s1.on).at_,.string (nameP L s1.on).name])).set H'.n (.row true 0 1 (dsc k (nameP L s1.on).at_ (nameP L s1.on).name 0)))=some (.val (.tuple #[.int .i64 (unitsP L k (nameS L s1.on)).1,.int .i64 (numP L (nameS L s1.on)).2]),KC)) ∧
      (¬(k=1∨k=2)→(run Tryz.prog E).call 62 [.pointer (some ⟨r,0,none⟩)] ((KA.push (.row true 0 1 [.int .i64 (nameP L s1.on).at_,.string (nameP L s1.on).name])).set H'.n (.row true 0 1 (dsc k (nameP L s1.on).at_ (nameP L s1.on).name 0)))=some (.val (.int .i64 (unitsP L k (nameS L s1.on)).1),KC)) ∧
      KC.get H'.n = .row true 0 1 (dsc k (nameP L s1.on).at_ (nameP L s1.on).name 0)∧H'.n<KC.n ∧
      (run Tryz.prog E).call 26 [.pointer (some ⟨r,0,none⟩),.string tSemi] (KC.set H'.n (.row true 0 1 (dsc k (nameP L s1.on).at_ (nameP L s1.on).name (unitsP L k (nameS L s1.on)).1)))=some (.val (.tuple #[]),KD) ∧
      KD.get H'.n = .row true 0 1 (dsc k (nameP L s1.on).at_ (nameP L s1.on).name (unitsP L k (nameS L s1.on)).1) ∧
      exAppend Tryz.prog [24,24] v (.slice (some ⟨KD.n,0,none⟩) 1 1) (KD.push (.row true 0 4 (dsc k (nameP L s1.on).at_ (nameP L s1.on).name (unitsP L k (nameS L s1.on)).1)))=some (v',KE) ∧
      repDcl.G KE (fun i=>H.n≤i) v' (acc++[dclP L k s1.on])∧At H r lid L (dclS L k s1.on) KE:=by
    intro k K hk1 hk0 lK gK
    obtain⟨KA,eA,lA,kA⟩:=lK.name hE
    have lB:=(lA.push (.row true 0 1 [.int .i64 (nameP L s1.on).at_,.string (nameP L s1.on).name])).put (dsc k (nameP L s1.on).at_ (nameP L s1.on).name 0)
    have nA:=kA.n
    have tA:=lA.lt
    have mv:∀ {A B:Heap} {X:Nat→Prop},repDcl.G A (fun i=>H.n≤i∧i≠H'.n) v acc→Same X A B→(∀ i,X i→i=r∨i=H'.n)→repDcl.G B (fun i=>H.n≤i∧i≠H'.n) v acc :=
     fun g k hX=>repDcl.G_move k (fun i hi _=>⟨hi,fun hx=>by have:=hX i hx;omega⟩) g
    have gA:=mv gK kA (fun i h => .inl h)
    have gB:=mv (mv gA (Same.push (fun _=>False) _ (.row true 0 1 [.int .i64 (nameP L s1.on).at_,.string (nameP L s1.on).name])) (fun _ h=>h.elim)) (Same.set (X:=fun i=>i=H'.n) _ (by simp;omega) rfl (.row true 0 1 (dsc k (nameP L s1.on).at_ (nameP L s1.on).name 0))) (fun i h => .inr h)
    have mid:∃ KC,(k=1∨k=2→(run Tryz.prog E).call 61 [.pointer (some ⟨r,0,none⟩)] ((KA.push (.row true 0 1 [.int .i64 (nameP L s1.on).at_,.string (nameP L s1.on).name])).set H'.n (.row true 0 1 (dsc k (nameP L s1.on).at_ (nameP L s1.on).name 0)))=some (.val (.tuple #[.int .i64 (unitsP L k (nameS L s1.on)).1,.int .i64 (numP L (nameS L s1.on)).2]),KC)) ∧
      (¬(k=1∨k=2)→(run Tryz.prog E).call 62 [.pointer (some ⟨r,0,none⟩)] ((KA.push (.row true 0 1 [.int .i64 (nameP L s1.on).at_,.string (nameP L s1.on).name])).set H'.n (.row true 0 1 (dsc k (nameP L s1.on).at_ (nameP L s1.on).name 0)))=some (.val (.int .i64 (unitsP L k (nameS L s1.on)).1),KC)) ∧
      Loc H r lid L H'.n (unitsP L k (nameS L s1.on)).2 (dsc k (nameP L s1.on).at_ (nameP L s1.on).name 0) KC∧Same (·=r) ((KA.push (.row true 0 1 [.int .i64 (nameP L s1.on).at_,.string (nameP L s1.on).name])).set H'.n (.row true 0 1 (dsc k (nameP L s1.on).at_ (nameP L s1.on).name 0))) KC:=by
     by_cases hk:k=1∨k=2
     · obtain⟨KC,eC,lC,kC⟩:=lB.num hE
       have hu:unitsP L k (nameS L s1.on)=((numP L (nameS L s1.on)).1,numS L (nameS L s1.on)):=by unfold unitsP;rw[if_pos hk]
       rw[hu]
       exact⟨KC,fun _=>eC,fun h=>absurd hk h,lC,kC⟩
     · obtain⟨KC,eC,kC,dC⟩:=size_run hE lB.at_.rd
       have hu:unitsP L k (nameS L s1.on)=sizeP L (nameS L s1.on):=by unfold unitsP;rw[if_neg hk]
       rw[hu]
       exact⟨KC,fun h=>absurd h hk,fun _=>eC,lB.step kC dC,kC⟩
    obtain⟨KC,eC1,eC2,lC,kC⟩:=mid
    have gC:=mv gB kC (fun i h => .inl h)
    have lC2:=lC.put (dsc k (nameP L s1.on).at_ (nameP L s1.on).name (unitsP L k (nameS L s1.on)).1)
    have gC2:=mv gC (Same.set (X:=fun i=>i=H'.n) KC lC.lt rfl (.row true 0 1 (dsc k (nameP L s1.on).at_ (nameP L s1.on).name (unitsP L k (nameS L s1.on)).1))) (fun i h => .inr h)
    obtain⟨KD,eD,lD,kD⟩:=lC2.must hE tSemi
    have gD:=mv gC2 kD (fun i h => .inl h)
    have nD:=lD.at_.n
    have tD:=lD.lt
    have gD2:repDcl.G KD (fun i=>H.n≤i) v acc:=repDcl.G_move (Same.refl (fun _=>False) _) (fun i hi _=>⟨hi.1,fun h=>h⟩) gD
    have hvD:∀ i,vid v i→H.n≤i:=fun i hi=>(hvr i hi).2
    have hpl:=hA.rd.place
    obtain⟨v',KE,eE,gE,kE⟩:=repDcl.G_app tf_dcl gD2 (fun i hi=>by omega) (by omega) (a:=dclP L k s1.on) (c:=dsc k (nameP L s1.on).at_ (nameP L s1.on).name (unitsP L k (nameS L s1.on)).1) rfl
    have aE:At H r lid L (dclS L k s1.on) KE:=⟨lD.at_.same.then kE (fun i hi => .inr (hvD i hi)),lD.at_.rd.keep kE (fun hi=>by have:=hvD _ hi;omega) (fun hi=>by have:=hvD _ hi;omega)⟩
    exact⟨KA,KC,KD,v',KE,eA,tA,lA.get,eC1,eC2,lC.get,lC.lt,eD,lD.get,eE,gE,aE⟩
   have mv:∀ {A B:Heap} {X:Nat→Prop},repDcl.G A (fun i=>H.n≤i∧i≠H'.n) v acc→Same X A B→(∀ i,X i→i=r∨i=H'.n)→repDcl.G B (fun i=>H.n≤i∧i≠H'.n) v acc :=
    fun g k hX=>repDcl.G_move k (fun i hi _=>⟨hi,fun hx=>by have:=hX i hx;omega⟩) g
   have q0:=mv (repDcl.G_move (Same.refl (fun _=>False) _) (S':=fun i=>H.n≤i∧i≠H'.n) (fun i hi hlt=>⟨⟨hi,by omega⟩,fun h=>h⟩) hG) (Same.push (fun _=>False) _ (.row true 0 1 (dsc 0 0 ByteArray.empty 0))) (fun _ h=>h.elim)
   simp only[dsc]at l0 q0
   by_cases c1:isP L s1 tResource=true
   · have hk1:kindP L s1=1:=by unfold kindP;simp[c1]
     rw[hk1,if_neg (by omega)]at hxl
     obtain⟨K1,e1,l1,k1⟩:=l0.take_yes hE c1
     have q1:=mv q0 k1 (fun i h => .inl h)
     have lK:=l1.put (dsc 1 0 ByteArray.empty 0)
     have qK:=mv q1 (Same.set (X:=fun i=>i=H'.n) K1 l1.lt rfl (.row true 0 1 (dsc 1 0 ByteArray.empty 0))) (fun i h => .inr h)
     obtain⟨KA,KC,KD,v',KE,eA,tA,gA,eN1,eN2,gC,tC,eD,gD,eE,gE,aE⟩:=tail 1 _ hk1 (by omega) lK qK
     have eN:=eN1 (by omega)
     have gK:=l1.get
     have tK:=l1.lt
     have tD:H'.n<KD.n:=Heap.lt_of_get gD (by simp)
     simp only[tResource,tSemi,dsc]at e1 gK eA gA eN gC eD gD eE
     simp[ht,g3,hh,eb,hc,e1,gK,tK,eA]
     refine region_plan (by exact pl_decls) ?_
     simp[ht,g3,hh,gA,tA,Heap.set_set,eN,gC,tC,eD,gD,tD,eE]
     refine⟨m,by omega,by omega,_,_,v',hxl,by simp[ht],gE,aE,?_⟩
     have:=dclS_lt L 1 s1.on
     have:=this.place
     simp[PS.on]at this ⊢
     omega
   have c1':isP L s1 tResource=false:=by simpa using c1
   obtain⟨K1,e1,l1,k1⟩:=l0.take_no hE c1'
   have q1:=mv q0 k1 (fun i h => .inl h)
   simp only[tResource]at e1
   by_cases c2:isP L s1 tSemaphore=true
   · have hk1:kindP L s1=2:=by unfold kindP;simp[c1',c2]
     rw[hk1,if_neg (by omega)]at hxl
     obtain⟨K2,e2,l2,k2⟩:=l1.take_yes hE c2
     have q2:=mv q1 k2 (fun i h => .inl h)
     have lK:=l2.put (dsc 2 0 ByteArray.empty 0)
     have qK:=mv q2 (Same.set (X:=fun i=>i=H'.n) K2 l2.lt rfl (.row true 0 1 (dsc 2 0 ByteArray.empty 0))) (fun i h => .inr h)
     obtain⟨KA,KC,KD,v',KE,eA,tA,gA,eN1,eN2,gC,tC,eD,gD,eE,gE,aE⟩:=tail 2 _ hk1 (by omega) lK qK
     have eN:=eN1 (by omega)
     have gK:=l2.get
     have tK:=l2.lt
     have tD:H'.n<KD.n:=Heap.lt_of_get gD (by simp)
     simp only[tSemaphore,tSemi,dsc]at e2 gK eA gA eN gC eD gD eE
     simp[ht,g3,hh,eb,hc,e1,e2,gK,tK,eA]
     refine region_plan (by exact pl_decls) ?_
     simp[ht,g3,hh,gA,tA,Heap.set_set,eN,gC,tC,eD,gD,tD,eE]
     refine⟨m,by omega,by omega,_,_,v',hxl,by simp[ht],gE,aE,?_⟩
     have:=dclS_lt L 2 s1.on
     have:=this.place
     simp[PS.on]at this ⊢
     omega
   have c2':isP L s1 tSemaphore=false:=by simpa using c2
   obtain⟨K2,e2,l2,k2⟩:=l1.take_no hE c2'
   have q2:=mv q1 k2 (fun i h => .inl h)
   simp only[tSemaphore]at e2
   by_cases c3:isP L s1 tShared=true
   · have hk1:kindP L s1=3:=by unfold kindP;simp[c1',c2',c3]
     rw[hk1,if_neg (by omega)]at hxl
     obtain⟨K3,e3,l3,k3⟩:=l2.take_yes hE c3
     have q3:=mv q2 k3 (fun i h => .inl h)
     have lK:=l3.put (dsc 3 0 ByteArray.empty 0)
     have qK:=mv q3 (Same.set (X:=fun i=>i=H'.n) K3 l3.lt rfl (.row true 0 1 (dsc 3 0 ByteArray.empty 0))) (fun i h => .inr h)
     obtain⟨KA,KC,KD,v',KE,eA,tA,gA,eN1,eN2,gC,tC,eD,gD,eE,gE,aE⟩:=tail 3 _ hk1 (by omega) lK qK
     have eN:=eN2 (by omega)
     have gK:=l3.get
     have tK:=l3.lt
     have tD:H'.n<KD.n:=Heap.lt_of_get gD (by simp)
     simp only[tShared,tSemi,dsc]at e3 gK eA gA eN gC eD gD eE
     simp[ht,g3,hh,eb,hc,e1,e2,e3,gK,tK,eA]
     refine region_plan (by exact pl_decls) ?_
     simp[ht,g3,hh,gA,tA,Heap.set_set,eN,gC,tC,eD,gD,tD,eE]
     refine⟨m,by omega,by omega,_,_,v',hxl,by simp[ht],gE,aE,?_⟩
     have:=dclS_lt L 3 s1.on
     have:=this.place
     simp[PS.on]at this ⊢
     omega
   have c3':isP L s1 tShared=false:=by simpa using c3
   obtain⟨K3,e3,l3,k3⟩:=l2.take_no hE c3'
   have q3:=mv q2 k3 (fun i h => .inl h)
   simp only[tShared]at e3
   by_cases c4:isP L s1 tVar=true
   · have hk1:kindP L s1=4:=by unfold kindP;simp[c1',c2',c3',c4]
     rw[hk1,if_neg (by omega)]at hxl
     obtain⟨K4,e4,l4,k4⟩:=l3.take_yes hE c4
     have q4:=mv q3 k4 (fun i h => .inl h)
     have lK:=l4.put (dsc 4 0 ByteArray.empty 0)
     have qK:=mv q4 (Same.set (X:=fun i=>i=H'.n) K4 l4.lt rfl (.row true 0 1 (dsc 4 0 ByteArray.empty 0))) (fun i h => .inr h)
     obtain⟨KA,KC,KD,v',KE,eA,tA,gA,eN1,eN2,gC,tC,eD,gD,eE,gE,aE⟩:=tail 4 _ hk1 (by omega) lK qK
     have eN:=eN2 (by omega)
     have gK:=l4.get
     have tK:=l4.lt
     have tD:H'.n<KD.n:=Heap.lt_of_get gD (by simp)
     simp only[tVar,tSemi,dsc]at e4 gK eA gA eN gC eD gD eE
     simp[ht,g3,hh,eb,hc,e1,e2,e3,e4,gK,tK,eA]
     refine region_plan (by exact pl_decls) ?_
     simp[ht,g3,hh,gA,tA,Heap.set_set,eN,gC,tC,eD,gD,tD,eE]
     refine⟨m,by omega,by omega,_,_,v',hxl,by simp[ht],gE,aE,?_⟩
     have:=dclS_lt L 4 s1.on
     have:=this.place
     simp[PS.on]at this ⊢
     omega
   have c4':isP L s1 tVar=false:=by simpa using c4
   obtain⟨K4,e4,l4,k4⟩:=l3.take_no hE c4'
   have q4:=mv q3 k4 (fun i h => .inl h)
   simp only[tVar]at e4
   have hk0:kindP L s1=0:=by unfold kindP;simp[c1',c2',c3',c4']
   rw[if_pos hk0]at hxl
   cases hxl
   simp[ht,g3,hh,eb,hc,e1,e2,e3,e4]
   exact⟨v,rfl,l4.at_.same,l4.at_.rd,repDcl.G_move (Same.refl (fun _=>False) _) (fun i hi _=>⟨hi.1,fun h=>h⟩) q4⟩
 · rw[if_neg hc]at hxl
   cases hxl
   simp[ht,g3,hh,eb,hc]
   exact⟨v,rfl,hA.same,hA.rd,hG⟩
end
def repIdn:Rep Idn where
 k:=2
 R _ _ x cs:=cs=x.cells
 len h:=by subst h;rfl
 move _ _ _ _ h:=h
structure Prc where
 at_:Int
 name:ByteArray
 params:List Idn
 vars:List Idn
 body:List Stm
def pc5 (a:Int)(x:ByteArray)(v1 v2 v3:Value):List Value:=[.int .i64 a,.string x,v1,v2,v3]
def RPrc (H:Heap)(S:Nat→Prop)(p:Prc)(cs:List Value):Prop:=∃ v1 v2 v3,cs=pc5 p.at_ p.name v1 v2 v3∧repIdn.G H S v1 p.params∧repIdn.G H S v2 p.vars∧repStm.G H S v3 p.body
def repPrc:Rep Prc where
 k:=5
 R:=RPrc
 len h:=by obtain⟨v1,v2,v3,rfl,_⟩:=h;rfl
 move k hs b cs h:=by
  obtain⟨v1,v2,v3,e,h1,h2,h3⟩:=h
  exact⟨v1,v2,v3,e,repIdn.G_move k hs h1,repIdn.G_move k hs h2,repStm.G_move k hs h3⟩
def tBegin:ByteArray:=⟨#[98,101,103,105,110]⟩
def tEnd:ByteArray:=⟨#[101,110,100]⟩
def identsL (L:List Tk):Nat→List Idn→Bool→PS→Option (List Idn × PS)
 | 0,_,_,_=>none
 | n + 1, acc, again, s =>
  if again=true∧s.c=0 then identsL L n (acc++[nameP L s]) (isP L (nameS L s) comma) (takeS L (nameS L s) comma)else some (acc,s)
def varsL (L:List Tk):Nat→List Idn→PS→Option (List Idn × PS)
 | 0,_,_=>none
 | n + 1, acc, s =>
  if isP L s tVar=true then varsL L n (acc++[nameP L s.on]) (mustS L (nameS L s.on) tSemi)else some (acc,s)
def paramsP (L:List Tk)(n:Nat)(s:PS):Option (List Idn × PS) :=
 if isP L s (b1 41)=true then some ([],s)else identsL L n [] true s
def procP (B:BrP)(L:List Tk)(n:Nat)(s:PS):Option (Prc × PS) :=
 (paramsP L n (mustS L (nameS L s) (b1 40))).bind fun a =>
  (varsL L n [] (mustS L (mustS L a.2 (b1 41)) tSemi)).bind fun b =>
   (stmtsL B L n 1 [] true (mustS L b.2 tBegin)).map fun c =>
    (⟨(nameP L s).at_,(nameP L s).name,a.1,b.1,c.1⟩,mustS L (mustS L c.2 tEnd) tSemi)
theorem identsL_le {L:List Tk}:∀ {n:Nat}{acc:List Idn}{again:Bool}{s s':PS}{l:List Idn},identsL L n acc again s=some (l,s')→s.le s'
 | 0,_,_,_,_,_,h=>by cases h
 | n + 1, acc, again, s, s', l, h => by
  rw[identsL]at h
  split at h
  · exact ((nameS_le L s).1.le_trans (takeS_le _ _ _)).le_trans (identsL_le h)
  · cases h;exact PS.le_refl _
theorem varsL_le {L:List Tk}:∀ {n:Nat}{acc:List Idn}{s s':PS}{l:List Idn},varsL L n acc s=some (l,s')→s.le s'
 | 0,_,_,_,_,h=>by cases h
 | n + 1, acc, s, s', l, h => by
  rw[varsL]at h
  split at h
  · exact (((PS.le_on s).le_trans (nameS_le L s.on).1).le_trans (mustS_le _ _ _)).le_trans (varsL_le h)
  · cases h;exact PS.le_refl _
theorem procP_lt {B:BrP}{L:List Tk}(hB:BLt B L){n:Nat}{s s':PS}{p:Prc}(h:procP B L n s=some (p,s')):s.lt s':=by
 unfold procP at h
 simp only[Option.bind_eq_some_iff,Option.map_eq_some_iff]at h
 obtain⟨⟨a,s1⟩,h1,⟨b,s2⟩,h2,⟨c,s3⟩,h3,h4⟩:=h
 cases h4
 have k1:(mustS L (nameS L s) (b1 40)).le s1:=by
  unfold paramsP at h1
  split at h1
  · cases h1;exact PS.le_refl _
  · exact identsL_le h1
 exact (name_lt L s).le_trans ((((mustS_le _ _ _).le_trans k1).le_trans (((mustS_le _ _ _).le_trans (mustS_le _ _ _)).le_trans (varsL_le h2))).le_trans (((mustS_le _ _ _).le_trans ((st_le hB n).2.1 _ _ _ _ _ _ h3)).le_trans ((mustS_le _ _ _).le_trans (mustS_le _ _ _))))
theorem tf_idn:TF Tryz.prog 45 2:=⟨_,_,_,by simp,by simp,by simp;rfl,by omega,by simp;rfl,rfl,by omega,rfl⟩
theorem tf_prc:TF Tryz.prog 25 5:=⟨_,_,_,by simp,by simp,by simp;rfl,by omega,by simp;rfl,rfl,by omega,rfl⟩
theorem pl_proc0:planOf Tryz.prog (drawN Tryz.f30 0)=some [(some (0,2)),(some (0,2)),none,none,none,none,none,none]:=by decide +kernel
theorem pl_proc1:planOf Tryz.prog (drawN Tryz.f30 1)=some [(some (0,2)),(some (0,2)),none,none,none,none,none,none]:=by decide +kernel
theorem Loc.grow {α:Type}(ρ:Rep α){t:TypeId}(T:TF Tryz.prog t ρ.k){Hp:Heap}{r lid:Nat}{L:List Tk}{sid:Nat}{s:PS}{sc:List Value}{K:Heap}(l:Loc Hp r lid L sid s sc K){v:Value}{acc:List α}
  (g:ρ.G K (fun i=>sid<i) v acc) (hl:acc.length≤100000) {a:α} {c:List Value} (ha:ρ.R K (fun i=>sid<i∧¬vid v i) a c) :
  ∃ b' K',exAppend Tryz.prog [t,t] v (.slice (some ⟨K.n,0,none⟩) 1 1) (K.push (.row true 0 ρ.k c))=some (.slice b' (acc.length+1) (acc.length+1),K')∧Loc Hp r lid L sid s sc K'∧K'.get sid = .row true 0 1 sc∧sid<K'.n∧ρ.G K' (fun i=>sid<i) (.slice b' (acc.length+1) (acc.length+1)) (acc++[a]):=by
 have t1:=l.lt
 have ow:=l.own
 have rl:=l.rl
 have hv:∀ i,vid v i→sid<i:=fun i hi=>(ρ.G_lt g hi).2
 obtain⟨v',K',e,gv,k⟩:=ρ.G_app T g (fun i hi=>by omega) hl ha
 have nk:=k.n
 obtain⟨b',rfl⟩:=ρ.G_slice gv
 have e1:(acc++[a]).length=acc.length+1:=by simp
 rw[e1]at e gv
 have g2:=k.at l.get (by simp) (fun hi=>by have:=hv _ hi;omega)
 exact⟨b',K',e,⟨⟨l.at_.same.then k (fun i hi => .inr (by have:=hv _ hi;omega)),l.at_.rd.keep k (fun hi=>by have:=hv _ hi;omega) (fun hi=>by have:=hv _ hi;omega)⟩,g2,by omega,ow,rl⟩,g2,by omega,gv⟩
theorem Loc.grow2 {α:Type}(ρ:Rep α){t:TypeId}(T:TF Tryz.prog t ρ.k){Hp:Heap}{r lid:Nat}{L:List Tk}{sid:Nat}{s:PS}{sc:List Value}{K:Heap}(l:Loc Hp r lid L sid s sc K){v:Value}{acc:List α}{bd:Nat}(hbd:sid<bd)(hbk:bd≤K.n)
  (g:ρ.G K (fun i=>bd≤i) v acc) (hl:acc.length≤100000) {a:α} {c:List Value} (ha:ρ.R K (fun i=>bd≤i∧¬vid v i) a c) :
  ∃ b' K',exAppend Tryz.prog [t,t] v (.slice (some ⟨K.n,0,none⟩) 1 1) (K.push (.row true 0 ρ.k c))=some (.slice b' (acc.length+1) (acc.length+1),K')∧Loc Hp r lid L sid s sc K'∧K'.get sid = .row true 0 1 sc∧sid<K'.n∧ρ.G K' (fun i=>bd≤i) (.slice b' (acc.length+1) (acc.length+1)) (acc++[a])∧Same (fun i=>bd≤i) K K':=by
 have t1:=l.lt
 have ow:=l.own
 have rl:=l.rl
 have hv:∀ i,vid v i→bd≤i:=fun i hi=>(ρ.G_lt g hi).2
 obtain⟨v',K',e,gv,k⟩:=ρ.G_app T g (fun i hi=>by omega) hl ha
 have nk:=k.n
 obtain⟨b',rfl⟩:=ρ.G_slice gv
 have e1:(acc++[a]).length=acc.length+1:=by simp
 rw[e1]at e gv
 have g2:=k.at l.get (by simp) (fun hi=>by have:=hv _ hi;omega)
 exact⟨b',K',e,⟨⟨l.at_.same.then k (fun i hi => .inr (by have:=hv _ hi;omega)),l.at_.rd.keep k (fun hi=>by have:=hv _ hi;omega) (fun hi=>by have:=hv _ hi;omega)⟩,g2,by omega,ow,rl⟩,g2,by omega,gv,k.mono hv⟩
def ProcJ (r lid:Nat)(L:List Tk)(H:Heap)(at_:Int)(name:ByteArray)(res:List Idn)(s':PS)(t:List Value)(K:Heap):Prop :=
 ∃ sid v,H.n<sid∧Loc (H.push (.row true 0 1 (pc5 0 ByteArray.empty nl nl nl))) r lid L sid s' (pc5 at_ name v nl nl) K∧repIdn.G K (fun i=>sid<i) v res ∧
  t.length=58∧rd t 0 = .pointer (some ⟨r,0,none⟩)∧rd t 2 = .pointer (some ⟨H.n,0,none⟩)∧rd t 4 = .pointer (some ⟨sid,0,none⟩)
def IdentsI (r lid:Nat)(L:List Tk)(H:Heap)(sid:Nat)(at_:Int)(name:ByteArray)(res:List Idn)(s':PS)(n m:Nat)(t:List Value)(K:Heap):Prop :=
 m≤n∧∃ acc again s v,identsL L m acc again s=some (res,s')∧rd t 5 = .bool again∧Loc (H.push (.row true 0 1 (pc5 0 ByteArray.empty nl nl nl))) r lid L sid s (pc5 at_ name v nl nl) K∧repIdn.G K (fun i=>sid<i) v acc∧(s.c=0→acc.length≤s.p)
def VarsI (r lid:Nat)(L:List Tk)(H:Heap)(sid:Nat)(at_:Int)(name:ByteArray)(ps:List Idn)(v:Value)(bd:Nat)(res:List Idn)(s':PS)(n m:Nat)(t:List Value)(K:Heap):Prop :=
 m≤n∧∃ acc s w,varsL L m acc s=some (res,s')∧Loc (H.push (.row true 0 1 (pc5 0 ByteArray.empty nl nl nl))) r lid L sid s (pc5 at_ name v w nl) K∧repIdn.G K (fun i=>sid<i∧i<bd) v ps∧repIdn.G K (fun i=>bd≤i) w acc∧acc.length≤s.p∧bd≤K.n
def VarsJ (r lid:Nat)(L:List Tk)(H:Heap)(sid:Nat)(at_:Int)(name:ByteArray)(ps vs:List Idn)(s':PS)(t:List Value)(K:Heap):Prop :=
 ∃ v w,Loc (H.push (.row true 0 1 (pc5 0 ByteArray.empty nl nl nl))) r lid L sid s' (pc5 at_ name v w nl) K∧repIdn.G K (fun i=>sid<i) v ps∧repIdn.G K (fun i=>sid<i) w vs ∧
  t.length=58∧rd t 0 = .pointer (some ⟨r,0,none⟩)∧rd t 2 = .pointer (some ⟨H.n,0,none⟩)∧rd t 4 = .pointer (some ⟨sid,0,none⟩)
section
variable {E:Hooks} (hE:Plain E) {B:BrP} {r lid:Nat} {L:List Tk}
include hE
theorem proc_run {n:Nat}(ih:StmtsOK E B r lid L n){s s':PS}{p:Prc}(hx:procP B L n s=some (p,s')){H:Heap}(h:RD H r lid L s):Gives ((run Tryz.prog E).call 30 [.pointer (some ⟨r,0,none⟩)] H) (RetR repPrc H r lid L p s'):=by
 have hr:=h.lt
 have hl:=h.lid_lt
 have hsm:=h.small
 have aP:At (H.push (.row true 0 1 (pc5 0 ByteArray.empty nl nl nl))) r lid L s (H.push (.row true 0 1 (pc5 0 ByteArray.empty nl nl nl))):=⟨Same.refl _ _,h.same (Same.push _ _ _)⟩
 obtain⟨HA,eA,kA,hA⟩:=name_run hE aP.rd
 have aA:=aP.go kA hA
 have nA:=kA.n
 simp at nA
 unfold procP at hx
 simp only[Option.bind_eq_some_iff,Option.map_eq_some_iff]at hx
 obtain⟨⟨ps,s1⟩,hx1,⟨vs,s2⟩,hx2,⟨bd,s3⟩,hx3,hx4⟩:=hx
 cases hx4
 generalize hnm:nameP L s=nm at *
 have aB:=(aA.push (.row true 0 1 nm.cells)).push (.row true 0 1 (pc5 nm.at_ nm.name nl nl nl))
 have l0:Loc (H.push (.row true 0 1 (pc5 0 ByteArray.empty nl nl nl))) r lid L (HA.n+1) (nameS L s) (pc5 nm.at_ nm.name nl nl nl) ((HA.push (.row true 0 1 nm.cells)).push (.row true 0 1 (pc5 nm.at_ nm.name nl nl nl))) :=
  ⟨aB,Heap.get_push_self _ _,by simp,by simp;omega,by simp;omega,by simp;omega⟩
 obtain⟨K1,e1,l1,-⟩:=l0.must hE (b1 40)
 obtain⟨K2,e2,l2,-⟩:=l1.is hE (b1 41)
 rw[c_proc hE,callB,bodyOf]
 simp only[pc5,nl,Idn.cells,b1]at eA e1 e2
 simp[Tryz.f30,eA,e1,e2]
 refine ends_cut (ProcJ r lid L H nm.at_ nm.name ps s1) (ends_cond (fun hb => ?_) (fun hb => ?_)) ?_
 · have hi:isP L (mustS L (nameS L s) (b1 40)) (b1 41)=false:=by simpa [b1] using hb
   unfold paramsP at hx1
   rw[if_neg (by simp[hi])]at hx1
   simp
   refine loop_wp (IdentsI r lid L H (HA.n+1) nm.at_ nm.name ps s1 n) n ?_ ?_
   · exact⟨Nat.le_refl n,[],true,_,nl,hx1,by simp,l2,repIdn.G_nil _ _,fun _=>by simp⟩
   rintro m t K hk ⟨hmn,acc,again,s4,v,hxl,g5,lF,gF,hlen⟩
   have ht:t.length=58:=hk.1.trans (by simp[len_Bs])
   have hh:=hk.all [0,2,4] (by decide +kernel)
   simp at hh
   obtain⟨u0,u2,u4⟩:=hh
   have eb:=bad_run hE lF.at_.rd
   cases m with
   | zero=>cases hxl
   | succ m =>
   rw[identsL]at hxl
   by_cases hg:again=true∧s4.c=0
   · rw[if_pos hg]at hxl
     obtain⟨rfl,hc⟩:=hg
     obtain⟨KA,eN,lA,kN⟩:=lF.name hE
     have gA:=lF.fld gF kN
     obtain⟨b0,rfl⟩:=repIdn.G_slice gF
     have hpl:=lF.at_.rd.place
     obtain⟨b',KB,eB,lB,gB,tB,rB⟩:=lA.grow repIdn tf_idn gA (by have:=hlen hc;omega) (a:=nameP L s4) (c:=(nameP L s4).cells) rfl
     have lC:=lB.put (pc5 nm.at_ nm.name (.slice b' (acc.length+1) (acc.length+1)) nl nl)
     have rC:=lB.fld_put rB (.row true 0 1 (pc5 nm.at_ nm.name (.slice b' (acc.length+1) (acc.length+1)) nl nl))
     obtain⟨KD,eD,kD,hD⟩:=take_run hE lC.at_.rd comma
     have lD:=lC.step kD hD
     have rD:=lC.fld rC kD
     have g1:=lF.get
     have g2:=lA.get
     have t2:=lA.lt
     simp only[repIdn,Idn.cells,pc5,nl,comma]at eB g1 g2 gB eD
     simp[ht,g5,u0,u2,u4,eb,hc]
     refine region_plan (by exact pl_proc0) ?_
     simp[ht,g5,u0,u2,u4,g1,g2,t2,eN,eB,gB,tB,eD]
     refine⟨m,by omega,by omega,_,_,_,.slice b' (acc.length+1) (acc.length+1),hxl,by simp[ht,comma],lD,rD,fun e0 => ?_⟩
     have h1:=takeS_c L (nameS L s4) comma
     have h2:=(name_lt L s4).on (by rw[← h1.1];exact e0)
     have h4:=hlen hc
     simp
     omega
   · rw[if_neg hg]at hxl
     cases hxl
     have out:∀ t',t'.length=58→rd t' 0 = .pointer (some ⟨r,0,none⟩)→rd t' 2 = .pointer (some ⟨H.n,0,none⟩)→rd t' 4 = .pointer (some ⟨HA.n+1,0,none⟩)→ProcJ r lid L H nm.at_ nm.name ps s1 t' K :=
      fun t' h1 h2 h3 h4=>⟨HA.n+1,v,by omega,lF,gF,h1,h2,h3,h4⟩
     by_cases ha:again=true
     · have hc:¬s1.c=0:=fun e=>hg ⟨ha,e⟩
       subst ha
       simp[ht,g5,u0,u2,u4,eb,hc]
       exact out _ (by simp[ht]) (by simp[ht,u0]) (by simp[ht,u2]) (by simp[ht,u4])
     · have ha':again=false:=by simpa using ha
       subst ha'
       simp[ht,g5,u0,u2,u4]
       exact out _ (by simp[ht]) (by simp[ht,u0]) (by simp[ht,u2]) (by simp[ht,u4])
 · have hi:isP L (mustS L (nameS L s) (b1 40)) (b1 41)=true:=by simpa [b1] using hb
   unfold paramsP at hx1
   rw[if_pos hi]at hx1
   cases hx1
   simp
   exact⟨HA.n+1,nl,by omega,l2,repIdn.G_nil _ _,by simp[len_Bs],by simp,by simp,by simp⟩
 · rintro t K ⟨sid,v,hsid,lJ,gJ,ht,u0,u2,u4⟩
   obtain⟨K3,e3,l3,k3⟩:=lJ.must hE (b1 41)
   obtain⟨K4,e4,l4,k4⟩:=l3.must hE tSemi
   have g4:=l3.fld (lJ.fld gJ k3) k4
   simp only[b1,tSemi]at e3 e4
   simp[ht,u0,u2,u4,e3,e4]
   refine loop_mid (VarsJ r lid L H sid nm.at_ nm.name ps vs s2) (VarsI r lid L H sid nm.at_ nm.name ps v K4.n vs s2 n) n ?_ ?_ ?_
   · exact⟨Nat.le_refl n,[],_,nl,hx2,l4,repIdn.G_move (Same.refl (fun _=>False) _) (fun i hi hlt=>⟨⟨hi,hlt⟩,fun h=>h⟩) g4,repIdn.G_nil _ _,by simp,Nat.le_refl _⟩
   · rintro m t' K' hk ⟨hmn,acc,s4,w,hxl,lF,gv,gF,hlen,hbd⟩
     have t4:=l4.lt
     have ow:=lF.own
     have rl:=lF.rl
     have ht':t'.length=58:=hk.1.trans (by simp[ht])
     have hh:=hk.all [0,2,4] (by decide +kernel)
     simp[ht,u0,u2,u4]at hh
     obtain⟨v0,v2,v4⟩:=hh
     cases m with
     | zero=>cases hxl
     | succ m =>
     rw[varsL]at hxl
     by_cases hi:isP L s4 tVar=true
     · rw[if_pos hi]at hxl
       obtain⟨K5,e5,l5,k5⟩:=lF.take_yes hE hi
       obtain⟨KA,eN,lA,kN⟩:=l5.name hE
       have n5:=k5.n
       have nN:=kN.n
       have gA:repIdn.G KA (fun i=>K4.n≤i) w acc:=repIdn.G_move (k5.trans kN) (fun i hi _=>⟨hi,by omega⟩) gF
       have gvA:repIdn.G KA (fun i=>sid<i∧i<K4.n) v ps:=repIdn.G_move (k5.trans kN) (fun i hi _=>⟨hi,by omega⟩) gv
       obtain⟨b0,rfl⟩:=repIdn.G_slice gF
       obtain⟨bv,rfl⟩:=repIdn.G_slice gv
       have hpl:=lF.at_.rd.place
       obtain⟨b',KB,eB,lB,gB,tB,rB,kB⟩:=lA.grow2 repIdn tf_idn (bd:=K4.n) (by omega) (by omega) gA (by omega) (a:=nameP L s4.on) (c:=(nameP L s4.on).cells) rfl
       have nB:=kB.n
       have gvB:repIdn.G KB (fun i=>sid<i∧i<K4.n) _ ps:=repIdn.G_move kB (fun i hi _=>⟨hi,by omega⟩) gvA
       have lC:=lB.put (pc5 nm.at_ nm.name (.slice bv ps.length ps.length) (.slice b' (acc.length+1) (acc.length+1)) nl)
       have rC:=repIdn.G_set rB tB (S':=fun i=>K4.n≤i) (fun j hj=>⟨hj,by omega⟩) (.row true 0 1 (pc5 nm.at_ nm.name (.slice bv ps.length ps.length) (.slice b' (acc.length+1) (acc.length+1)) nl))
       have rvC:=repIdn.G_set gvB tB (S':=fun i=>sid<i∧i<K4.n) (fun j hj=>⟨hj,by omega⟩) (.row true 0 1 (pc5 nm.at_ nm.name (.slice bv ps.length ps.length) (.slice b' (acc.length+1) (acc.length+1)) nl))
       obtain⟨KD,eD,lD,kD⟩:=lC.must hE tSemi
       have nD:=kD.n
       simp at nD
       have rD:repIdn.G KD (fun i=>K4.n≤i) _ _:=repIdn.G_move kD (fun i hi _=>⟨hi,by omega⟩) rC
       have rvD:repIdn.G KD (fun i=>sid<i∧i<K4.n) _ _:=repIdn.G_move kD (fun i hi _=>⟨hi,by omega⟩) rvC
       have g1:=l5.get
       have g2:=lA.get
       have t2:=lA.lt
       simp only[repIdn,Idn.cells,pc5,nl,tSemi,tVar]at e5 eB g1 g2 gB eD
       simp[ht',v0,v2,v4,e5]
       refine region_plan (by exact pl_proc1) ?_
       simp[ht',v0,v2,v4,g1,g2,t2,eN,eB,gB,tB,eD]
       refine⟨m,by omega,by omega,_,_,.slice b' (acc.length+1) (acc.length+1),hxl,lD,rvD,rD,?_,by omega⟩
       have:=((nameS_le L s4.on).1.le_trans (mustS_le L _ tSemi)).place
       simp[PS.on]at this ⊢
       omega
     · rw[if_neg hi]at hxl
       cases hxl
       have hi':isP L s2 tVar=false:=by simpa using hi
       obtain⟨K5,e5,l5,k5⟩:=lF.take_no hE hi'
       simp only[tVar]at e5
       simp[ht',v0,v2,v4,e5]
       exact⟨v,w,l5,lF.fld (repIdn.G_move (Same.refl (fun _=>False) _) (fun i hi _=>⟨hi.1,fun h=>h⟩) gv) k5,lF.fld (repIdn.G_move (Same.refl (fun _=>False) _) (fun i hi _=>⟨by omega,fun h=>h⟩) gF) k5,by simp[ht'],by simp[ht',v0],by simp[ht',v2],by simp[ht',v4]⟩
   · rintro t' K' hk ⟨v,w,lF,gv,gF,ht',v0,v2,v4⟩
     obtain⟨K5,e5,l5,k5⟩:=lF.must hE tBegin
     obtain⟨o,K6,e6,x,rfl,k6,d6,g6⟩:=ih _ _ _ _ hx3 (by omega) (by omega) _ l5.at_.rd
     have l6:=l5.step k6 d6
     obtain⟨bb,rfl⟩:=repStm.G_slice g6
     obtain⟨bv,rfl⟩:=repIdn.G_slice gv
     obtain⟨bw,rfl⟩:=repIdn.G_slice gF
     have t5:=l5.lt
     have g6':repStm.G K6 (fun i=>sid<i) (.slice bb bd.length bd.length) bd:=repStm.G_move (Same.refl (fun _=>False) _) (fun i hi _=>⟨by omega,fun h=>h⟩) g6
     have l7:=l6.put (pc5 nm.at_ nm.name (.slice bv ps.length ps.length) (.slice bw vs.length vs.length) (.slice bb bd.length bd.length))
     obtain⟨K8,e8,l8,k8⟩:=l7.must hE tEnd
     obtain⟨K9,e9,l9,k9⟩:=l8.must hE tSemi
     have mv:∀ {α:Type} {ρ:Rep α} {v:Value} {q:List α},ρ.G K6 (fun i=>sid<i) v q→ρ.G K9 (fun i=>sid<i) v q:=fun g=>l8.fld (l7.fld (l6.fld_put g _) k8) k9
     have f1:=mv (l5.fld (lF.fld gv k5) k6)
     have f2:=mv (l5.fld (lF.fld gF k5) k6)
     have f3:=mv g6'
     have gl6:=l6.get
     have tl6:=l6.lt
     have gl9:=l9.get
     have hz:K9.get H.n = .row true 0 1 (pc5 0 ByteArray.empty nl nl nl):=l9.at_.same.at (Heap.get_push_self _ _) (by simp) (by omega)
     have hz2:H.n<K9.n:=by have:=l9.at_.n;simp at this;omega
     simp only[tBegin,tEnd,tSemi,pc5,nl]at e5 e6 gl6 e8 e9 gl9 hz
     simp[ht',v0,v2,v4,e5,e6,gl6,tl6,e8,e9,gl9,hz,hz2]
     exact ret_rep repPrc hr hl l9.at_ (a:=⟨nm.at_,nm.name,ps,vs,bd⟩) (repPrc.move (Same.refl (fun _=>False) _) (S:=fun i=>sid<i) (fun i hi _=>⟨by omega,fun h=>h⟩) _ _ ⟨_,_,_,rfl,f1,f2,f3⟩) _
end
structure Src where
 name:ByteArray
 decls:List Dcl
 procs:List Prc
 claims:List Itm
 body:List Stm
def sr5 (x:ByteArray)(v1 v2 v3 v4:Value):List Value:=[.string x,v1,v2,v3,v4]
def RSrc (H:Heap)(S:Nat→Prop)(p:Src)(cs:List Value):Prop:=∃ v1 v2 v3 v4,cs=sr5 p.name v1 v2 v3 v4∧repDcl.G H S v1 p.decls∧repPrc.G H S v2 p.procs∧repItm.G H S v3 p.claims∧repStm.G H S v4 p.body
theorem RSrc.move {X S S':Nat→Prop}{H H':Heap}(k:Same X H H')(hs:∀ i,S i→i<H.n→S' i∧¬X i){p:Src}{cs:List Value}(h:RSrc H S p cs):RSrc H' S' p cs:=by
 obtain⟨v1,v2,v3,v4,e,h1,h2,h3,h4⟩:=h
 exact⟨v1,v2,v3,v4,e,repDcl.G_move k hs h1,repPrc.G_move k hs h2,repItm.G_move k hs h3,repStm.G_move k hs h4⟩
def tProgram:ByteArray:=⟨#[112,114,111,103,114,97,109]⟩
def tProcedure:ByteArray:=⟨#[112,114,111,99,101,100,117,114,101]⟩
def procsL (B:BrP)(L:List Tk):Nat→List Prc→PS→Option (List Prc × PS)
 | 0,_,_=>none
 | n + 1, acc, s =>
  if isP L s tProcedure=true then (procP B L n s.on).bind fun q=>procsL B L n (acc++[q.1]) q.2 else some (acc,s)
def claimsP (L:List Tk)(n:Nat)(s:PS):Option (List Itm × PS) :=
 if isP L s tClaims=true then (itemsL L n [] true s.on).map fun q=>(q.1,mustS L q.2 tSemi)else some ([],s)
def endS (L:List Tk)(s:PS):PS:=if (tok L s.p).kind=5 then s else faultS L s 14
def srcP (B:BrP)(L:List Tk)(n:Nat):Option (Src ⊕ (Int × Int)) :=
 (declsL L n [] (mustS L (nameS L (mustS L ⟨0,0,0⟩ tProgram)) tSemi)).bind fun d =>
  (procsL B L n [] d.2).bind fun p =>
   (claimsP L n p.2).bind fun c =>
    (stmtsL B L n 1 [] true (mustS L c.2 tBegin)).map fun b =>
     let s:=endS L (mustS L (mustS L b.2 tEnd) (b1 46))
     if s.c=0 then .inl ⟨(nameP L (mustS L ⟨0,0,0⟩ tProgram)).name,d.1,p.1,c.1,b.1⟩else .inr (s.c,s.a)
def parseP (B:BrP)(src:List UInt8)(n:Nat):Option (Src ⊕ (Int × Int)) :=
 (lexFrom src (src.length+1) 0 []).bind fun q=>match q with
  | .inr f=>some (.inr f)
  | .inl L=>srcP B L n
def RetP (H:Heap)(res:Src ⊕ (Int × Int))(o:Out)(H':Heap):Prop :=
 Same (fun _=>False) H H'∧match res with
 | .inr (c,p)=>o = .val (.tuple #[.agg ⟨sr5 ByteArray.empty nl nl nl nl⟩,.agg #[.int .i64 c,.int .i64 p]])
 | .inl S=>∃ cs,o = .val (.tuple #[.agg ⟨cs⟩,.agg #[.int .i64 0,.int .i64 0]])∧RSrc H' (fun i=>H.n≤i) S cs
theorem pl_parse0:planOf Tryz.prog (drawN Tryz.f12 0)=some [none,(some (0,1)),none,none]:=by decide +kernel
theorem pl_parse1:planOf Tryz.prog (drawN Tryz.f12 1)=some [(some (0,2)),(some (0,2)),none,none,none,none,none,none]:=by decide +kernel
theorem pl_parse2:planOf Tryz.prog (drawN Tryz.f12 2)=some [none,(some (0,1)),(some (0,1)),(some (0,1)),(some (0,1)),none,none]:=by decide +kernel
structure PT (H:Heap)(r sid:Nat)(t:List Value):Prop where
 len:t.length=72
 t2:rd t 2 = .pointer (some ⟨H.n,0,none⟩)
 t3:rd t 3 = .pointer (some ⟨H.n+1,0,none⟩)
 t6:rd t 6 = .pointer (some ⟨r,0,none⟩)
 t7:rd t 7 = .pointer (some ⟨sid,0,none⟩)
theorem PT.of {H:Heap}{r sid:Nat}{t t':List Value}(p:PT H r sid t)(hl:t'.length=t.length)(h:AllRd t' t [2,3,6,7]):PT H r sid t':=by
 simp at h
 exact⟨hl.trans p.len,h.1.trans p.t2,h.2.1.trans p.t3,h.2.2.1.trans p.t6,h.2.2.2.trans p.t7⟩
def ProcsI (B:BrP)(H Hp:Heap)(r lid:Nat)(L:List Tk)(sid:Nat)(name:ByteArray)(ds:List Dcl)(v:Value)(bd:Nat)(res:List Prc)(s':PS)(n N m:Nat)(t:List Value)(K:Heap):Prop :=
 m≤n∧∃ acc s w,procsL B L m acc s=some (res,s')∧Loc Hp r lid L sid s (sr5 name v w nl nl) K∧repDcl.G K (fun i=>sid<i∧i<bd) v ds∧repPrc.G K (fun i=>bd≤i) w acc∧acc.length≤s.p∧bd≤K.n
def ProcsJ (H Hp:Heap)(r lid:Nat)(L:List Tk)(sid:Nat)(name:ByteArray)(ds:List Dcl)(ps:List Prc)(s':PS)(t:List Value)(K:Heap):Prop :=
 PT H r sid t∧∃ v w,Loc Hp r lid L sid s' (sr5 name v w nl nl) K∧repDcl.G K (fun i=>sid<i) v ds∧repPrc.G K (fun i=>sid<i) w ps
def ClaimsJ (H Hp:Heap)(r lid:Nat)(L:List Tk)(sid:Nat)(name:ByteArray)(ds:List Dcl)(ps:List Prc)(cs:List Itm)(s':PS)(t:List Value)(K:Heap):Prop :=
 PT H r sid t∧∃ v w x,Loc Hp r lid L sid s' (sr5 name v w x nl) K∧repDcl.G K (fun i=>sid<i) v ds∧repPrc.G K (fun i=>sid<i) w ps∧repItm.G K (fun i=>sid<i) x cs
def EndJ (H Hp:Heap)(r lid:Nat)(L:List Tk)(sid:Nat)(S:Src)(s':PS)(t:List Value)(K:Heap):Prop :=
 PT H r sid t∧∃ sc,Loc Hp r lid L sid s' sc K∧RSrc K (fun i=>sid<i) S sc
theorem RSrc.slices {H:Heap}{S:Nat→Prop}{p:Src}{cs:List Value}(h:RSrc H S p cs):∃ x a1 a2 a3 b1 b2 b3 c1 c2 c3 d1 d2 d3,cs=sr5 x (.slice a1 a2 a3) (.slice b1 b2 b3) (.slice c1 c2 c3) (.slice d1 d2 d3):=by
 obtain⟨v1,v2,v3,v4,rfl,h1,h2,h3,h4⟩:=h
 obtain⟨b1,rfl⟩:=repDcl.G_slice h1
 obtain⟨b2,rfl⟩:=repPrc.G_slice h2
 obtain⟨b3,rfl⟩:=repItm.G_slice h3
 obtain⟨b4,rfl⟩:=repStm.G_slice h4
 exact⟨_,_,_,_,_,_,_,_,_,_,_,_,_,rfl⟩
theorem RPrc.slices {H:Heap}{S:Nat→Prop}{p:Prc}{cs:List Value}(h:RPrc H S p cs):∃ a x a1 a2 a3 b1 b2 b3 c1 c2 c3,cs=pc5 a x (.slice a1 a2 a3) (.slice b1 b2 b3) (.slice c1 c2 c3):=by
 obtain⟨v1,v2,v3,rfl,h1,h2,h3⟩:=h
 obtain⟨b1,rfl⟩:=repIdn.G_slice h1
 obtain⟨b2,rfl⟩:=repIdn.G_slice h2
 obtain⟨b3,rfl⟩:=repStm.G_slice h3
 exact⟨_,_,_,_,_,_,_,_,_,_,_,rfl⟩
section
variable {E:Hooks} (hE:Plain E) {B:BrP}
include hE
def AllOK (E:Hooks)(H:Heap)(v:Value)(src:List UInt8):Prop:=∀ q,lexFrom src (src.length+1) 0 []=some q→∀ X,Same (fun _=>False) H X→Gives ((run Tryz.prog E).call 25 [v] X) (RetL X q)
theorem AllOK.bs {H:Heap}{sid off cap:Nat}{src:List UInt8}(hb:BS H sid off cap src)(hsm:src.length≤4096):AllOK E H (.slice (some ⟨sid,off,none⟩) src.length cap) src :=
 fun q hq X k=>all_walk hE (hb.same k (fun h=>h)) hsm hq
theorem AllOK.nil (H:Heap):AllOK E H (.slice none 0 0) []:=by
 intro q hq X kX
 simp[lexFrom]at hq
 subst hq
 rw[c_All hE,callB,bodyOf]
 simp[Tryz.f25]
 refine loop_wp (fun m t K=>rd t 5 = .int .i64 0∧rd t 4 = .slice (some ⟨X.n+1,0,none⟩) 0 0∧K=(X.push (.row true 0 1 [.int .i64 0,.int .i64 0])).push (.row true 0 4 [])) 0 ?_ ?_
 · exact⟨by simp,by simp,rfl⟩
 rintro m t K hk ⟨g5,g4,rfl⟩
 have ht:t.length=193:=hk.1.trans (by simp[len_Bs])
 have hh:=hk.all [0,3] (by decide +kernel)
 simp at hh
 obtain⟨t0,t3⟩:=hh
 obtain⟨H2,e1,e2,e3,e4⟩:=app_one tf_tok (H:=((X.push (.row true 0 1 [.int .i64 0,.int .i64 0])).push (.row true 0 4 [])).push (.row true 0 4 [.int .i64 5,.int .i64 0,.int .i64 0,.string ByteArray.empty])) (id:=X.n+1) (tl:=0) (n:=0) (xid:=X.n+1+1) (cs:=[]) (c:=[.int .i64 5,.int .i64 0,.int .i64 0,.string ByteArray.empty]) (xt:=0) (xe:=4) (xo:=true) (xc:=1)
  (by rw[Heap.get_push,if_neg (by simp)];exact Heap.get_push_self _ _) rfl (by omega) rfl (by exact Heap.get_push_self _ _) (by omega)
 simp only[Heap.n_push]at e1 e2 e3
 have g1:H2.get X.n = .row true 0 1 [.int .i64 0,.int .i64 0]:=e4.at (by rw[Heap.get_push,if_neg (by simp),Heap.get_push,if_neg (by simp),Heap.get_push_self]) (by simp) (by omega)
 have kp:Same (fun _=>False) X (((X.push (.row true 0 1 [.int .i64 0,.int .i64 0])).push (.row true 0 4 [])).push (.row true 0 4 [.int .i64 5,.int .i64 0,.int .i64 0,.string ByteArray.empty])):=((Same.push _ _ _).then_push _).then_push _
 simp[ht,g5,g4,t0,t3,e1,g1,show X.n<H2.n by omega]
 refine⟨(kp.then e4 (fun i hi => .inr (by omega))).then_set (by omega) (.inr (Nat.le_refl _)) _,X.n+1+1+1,by omega,rfl,1,by omega,?_⟩
 rw[Heap.get_set _ _ _ (by omega),if_neg (by omega)]
 exact e2
theorem parse_walk0 (hB:∀ L,BLt B L)(hBr:∀ r lid L,BranOK E B r lid L){H:Heap}{v:Value}{src:List UInt8}(hv:isTuple v=false)(hall:AllOK E H v src)(hsm:src.length≤4096){n:Nat}{res:Src ⊕ (Int × Int)}(hx:parseP B src n=some res) :
  Gives ((run Tryz.prog E).call 12 [v] H) (RetP H res):=by
 unfold parseP at hx
 simp only[Option.bind_eq_some_iff]at hx
 obtain⟨q,hlex,hx⟩:=hx
 obtain⟨o,HA,eA,kA,hq⟩:=hall q hlex ((H.push (.row true 0 1 (sr5 ByteArray.empty nl nl nl nl))).push (.row true 0 1 [.int .i64 0,.int .i64 0])) ((Same.push _ _ _).then_push _)
 have nA:=kA.n
 simp at nA
 have gA0:HA.get H.n = .row true 0 1 (sr5 ByteArray.empty nl nl nl nl):=kA.at (by rw[Heap.get_push,if_neg (by simp),Heap.get_push_self]) (by simp) (fun h=>h)
 have gA1:HA.get (H.n+1) = .row true 0 1 [.int .i64 0,.int .i64 0]:=kA.at (Heap.get_push_self _ _) (by simp) (fun h=>h)
 have kH:Same (fun _=>False) H HA:=((Same.push _ _ _).then_push _).trans kA
 have tA0:H.n<HA.n:=by omega
 have tA1:H.n+1<HA.n:=by omega
 rw[c_Parse hE,callB,bodyOf]
 simp only[sr5,nl]at gA0 eA
 match q,hlex,hx,hq with
 | .inr (c, p), hlex, hx, hq =>
  cases hx
  simp only at hq
  subst hq
  have hc:=lexFrom_bad hlex
  simp[Tryz.f12,eA,hc]
  refine region_plan (by exact pl_parse0) ?_
  simp[gA0,gA1,tA0,tA1]
  refine⟨(kH.then_push _).then_set (by simp;omega) (.inr (by omega)) _ |>.then_set (by simp;omega) (.inr (by omega)) _,?_⟩
  simp[sr5]
 | .inl L, hlex, hx, hq =>
  obtain⟨id,hid,rfl,tl,htl,hrow⟩:=hq
  have hLl:=lexFrom_len hlex
  simp at hLl
  simp only[srcP,Option.bind_eq_some_iff,Option.map_eq_some_iff]at hx
  obtain⟨⟨ds,s1⟩,hx1,⟨ps,s2⟩,hx2,⟨cl,s3⟩,hx3,⟨bd,s4⟩,hx4,hx5⟩:=hx
  have hrd:RD ((HA.push (.row true 0 1 [.int .i64 0,.int .i64 0])).push (.row true 0 1 [.slice (some ⟨id,0,none⟩) L.length L.length,.int .i64 0,.int .i64 0,.int .i64 0])) (HA.n+1) id L ⟨0,0,0⟩:=by
   have hidn:=Heap.lt_of_get hrow (by simp)
   exact⟨Heap.get_push_self _ _,⟨tl,by rw[Heap.get_push,if_neg (by simp;omega),Heap.get_push,if_neg (by omega)];exact hrow⟩,by omega,Nat.zero_le _⟩
  have hidn:=Heap.lt_of_get hrow (by simp)
  generalize hHp:(HA.push (.row true 0 1 [.int .i64 0,.int .i64 0])).push (.row true 0 1 [.slice (some ⟨id,0,none⟩) L.length L.length,.int .i64 0,.int .i64 0,.int .i64 0])=Hp at *
  have nHp:Hp.n=HA.n+2:=by rw[← hHp];rfl
  have kHp:Same (fun _=>False) H Hp:=by rw[← hHp];exact (kH.then_push _).then_push _
  have gp0:Hp.get H.n = .row true 0 1 [.string ByteArray.empty,.slice none 0 0,.slice none 0 0,.slice none 0 0,.slice none 0 0]:=by rw[← hHp,Heap.get_push,if_neg (by simp;omega),Heap.get_push,if_neg (by omega)];exact gA0
  have gp1:Hp.get (H.n+1) = .row true 0 1 [.int .i64 0,.int .i64 0]:=by rw[← hHp,Heap.get_push,if_neg (by simp;omega),Heap.get_push,if_neg (by omega)];exact gA1
  have aP:At Hp (HA.n+1) id L ⟨0,0,0⟩ Hp:=⟨Same.refl _ _,hrd⟩
  obtain⟨K1,e1,k1,d1⟩:=must_run hE aP.rd tProgram
  have a1:=aP.go k1 d1
  obtain⟨K2,e2,k2,d2⟩:=name_run hE a1.rd
  have a2:=a1.go k2 d2
  have n2:=a2.n
  generalize hnm:(nameP L (mustS L ⟨0,0,0⟩ tProgram)).name=nm at *
  have l2:Loc Hp (HA.n+1) id L K2.n (nameS L (mustS L ⟨0,0,0⟩ tProgram)) (sr5 nm nl nl nl nl) (K2.push (.row true 0 1 (sr5 nm nl nl nl nl))) :=
   ⟨a2.push _,Heap.get_push_self _ _,by simp,n2,by omega,by omega⟩
  obtain⟨K3,e3,l3,k3⟩:=l2.must hE tSemi
  obtain⟨o4,K4,e4,v4,rfl,k4,d4,g4⟩:=decls_run hE hx1 l3.at_.rd
  have l4:=l3.step k4 d4
  obtain⟨b4,rfl⟩:=repDcl.G_slice g4
  have t3:=l3.lt
  have g4':repDcl.G K4 (fun i=>K2.n<i) (.slice b4 ds.length ds.length) ds:=repDcl.G_move (Same.refl (fun _=>False) _) (fun i hi _=>⟨by omega,fun h=>h⟩) g4
  have l5:=l4.put (sr5 nm (.slice b4 ds.length ds.length) nl nl nl)
  have g5:=l4.fld_put g4' (.row true 0 1 (sr5 nm (.slice b4 ds.length ds.length) nl nl nl))
  have gl4:=l4.get
  have tl4:=l4.lt
  have l5x:=l5
  simp only[Idn.cells,hnm]at e2
  simp only[tProgram,tSemi,sr5,nl]at e1 e2 e3 e4 gl4 l5x
  simp[Tryz.f12,eA,hHp,e1,e2,e3,e4,gl4,tl4]
  refine loop_mid (ProcsJ H Hp (HA.n+1) id L K2.n nm ds ps s2) (ProcsI B H Hp (HA.n+1) id L K2.n nm ds (.slice b4 ds.length ds.length) K4.n ps s2 n n) n ?_ ?_ ?_
  · exact⟨Nat.le_refl n,[],_,nl,hx2,l5,repDcl.G_move (Same.refl (fun _=>False) _) (fun i hi hlt=>⟨⟨hi,hlt⟩,fun h=>h⟩) g5,repPrc.G_nil _ _,by simp,Nat.le_refl _⟩
  · rintro m t K hk ⟨hmn,acc,s6,w,hxl,lF,gv,gF,hlen,hbd⟩
    have ht:t.length=72:=hk.1.trans (by simp[len_Bs])
    have hh:=hk.all [2,3,6,7] (by decide +kernel)
    simp at hh
    obtain⟨u2,u3,u6,u7⟩:=hh
    have ow:=lF.own
    have rl:=lF.rl
    cases m with
    | zero=>cases hxl
    | succ m =>
    rw[procsL]at hxl
    by_cases hi:isP L s6 tProcedure=true
    · rw[if_pos hi]at hxl
      simp only[Option.bind_eq_some_iff]at hxl
      obtain⟨⟨pr,s7⟩,hxa,hxb⟩:=hxl
      obtain⟨K5,e5,l5',k5⟩:=lF.take_yes hE hi
      obtain⟨oC,KC,eC,cs,rfl,kC,dC,rC⟩:=proc_run hE (st_all hE (hB L) (hBr _ _ _) m).2.1 hxa l5'.at_.rd
      have lC:=l5'.step kC dC
      have n5:=k5.n
      have nC:=kC.n
      have hlt:=procP_lt (hB L) hxa
      have gA:repPrc.G KC (fun i=>K4.n≤i) w acc:=repPrc.G_move (k5.trans kC) (fun i hi _=>⟨hi,by omega⟩) gF
      have gvA:repDcl.G KC (fun i=>K2.n<i∧i<K4.n) (.slice b4 ds.length ds.length) ds:=repDcl.G_move (k5.trans kC) (fun i hi _=>⟨hi,by omega⟩) gv
      obtain⟨b0,rfl⟩:=repPrc.G_slice gF
      have hpl:=lF.at_.rd.place
      have hwl:∀ i,vid (.slice b0 acc.length acc.length) i→i<K.n:=fun i hi=>(repPrc.G_lt gF hi).1
      have rC2:RPrc KC (fun i=>K5.n≤i) pr cs:=rC
      obtain⟨p1,p2,p3,p4,p5,p6,p7,p8,p9,p10,p11,rfl⟩:=rC2.slices
      obtain⟨b',KB,eB,lB,gB,tB,rB,kB⟩:=lC.grow2 repPrc tf_prc (bd:=K4.n) (by omega) (by omega) gA (by omega) (a:=pr) (c:=pc5 p1 p2 (.slice p3 p4 p5) (.slice p6 p7 p8) (.slice p9 p10 p11)) (repPrc.move (Same.refl (fun _=>False) _) (fun i hi _=>⟨⟨by omega,fun e=>by have:=hwl _ e;omega⟩,fun h=>h⟩) _ _ rC)
      have nB:=kB.n
      have gvB:repDcl.G KB (fun i=>K2.n<i∧i<K4.n) _ ds:=repDcl.G_move kB (fun i hi _=>⟨hi,by omega⟩) gvA
      have lD:=lB.put (sr5 nm (.slice b4 ds.length ds.length) (.slice b' (acc.length+1) (acc.length+1)) nl nl)
      have rD:=repPrc.G_set rB tB (S':=fun i=>K4.n≤i) (fun j hj=>⟨hj,by omega⟩) (.row true 0 1 (sr5 nm (.slice b4 ds.length ds.length) (.slice b' (acc.length+1) (acc.length+1)) nl nl))
      have rvD:=repDcl.G_set gvB tB (S':=fun i=>K2.n<i∧i<K4.n) (fun j hj=>⟨hj,by omega⟩) (.row true 0 1 (sr5 nm (.slice b4 ds.length ds.length) (.slice b' (acc.length+1) (acc.length+1)) nl nl))
      have g1:=l5'.get
      have g2:=lC.get
      have t2:=lC.lt
      simp only[repPrc,pc5,sr5,nl,tProcedure]at e5 eC eB g1 g2 gB
      simp[ht,u2,u3,u6,u7,e5]
      refine region_plan (by exact pl_parse1) ?_
      simp[ht,u2,u3,u6,u7,g1,g2,t2,eC,eB,gB,tB]
      refine⟨m,by omega,by omega,_,_,.slice b' (acc.length+1) (acc.length+1),hxb,lD,rvD,rD,?_,by simp;omega⟩
      have:=hlt.le.place
      simp[PS.on]at this ⊢
      omega
    · rw[if_neg hi]at hxl
      cases hxl
      have hi':isP L s2 tProcedure=false:=by simpa using hi
      obtain⟨K5,e5,l5',k5⟩:=lF.take_no hE hi'
      simp only[tProcedure]at e5
      simp[ht,u2,u3,u6,u7,e5]
      exact⟨⟨by simp[ht],by simp[ht,u2],by simp[ht,u3],by simp[ht,u6],by simp[ht,u7]⟩,_,w,l5',lF.fld (repDcl.G_move (Same.refl (fun _=>False) _) (fun i hi _=>⟨hi.1,fun h=>h⟩) gv) k5,lF.fld (repPrc.G_move (Same.refl (fun _=>False) _) (fun i hi _=>⟨by omega,fun h=>h⟩) gF) k5⟩
  · rintro t K hk ⟨⟨ht,u2,u3,u6,u7⟩,v,w,lF,gv,gw⟩
    obtain⟨bv,rfl⟩:=repDcl.G_slice gv
    obtain⟨bw,rfl⟩:=repPrc.G_slice gw
    obtain⟨K5,e5,k5,d5⟩:=take_run hE lF.at_.rd tClaims
    have l5':=lF.step k5 d5
    have gv5:=lF.fld gv k5
    have gw5:=lF.fld gw k5
    simp only[tClaims]at e5
    simp[ht,u2,u3,u6,u7,e5]
    unfold claimsP at hx3
    refine ends_cut (ClaimsJ H Hp (HA.n+1) id L K2.n nm ds ps cl s3) (ends_cond (fun hb => ?_) (fun hb => ?_)) ?_
    · have hi:isP L s2 tClaims=true:=hb
      rw[if_pos hi]at hx3
      simp only[Option.map_eq_some_iff]at hx3
      obtain⟨⟨it,s5⟩,hx31,hx32⟩:=hx3
      cases hx32
      rw[takeS_yes hi]at l5'
      obtain⟨K6,bi,im,e6,l6,i6,k6⟩:=l5'.items hE hx31
      have l7:=l6.put (sr5 nm (.slice bv ds.length ds.length) (.slice bw ps.length ps.length) (.slice bi im im) nl)
      obtain⟨K8,e8,l8,k8⟩:=l7.must hE tSemi
      have mv:∀ {α:Type} {ρ:Rep α} {v:Value} {q:List α},ρ.G K6 (fun i=>K2.n<i) v q→ρ.G K8 (fun i=>K2.n<i) v q:=fun g=>l7.fld (l6.fld_put g _) k8
      have f1:=mv (l5'.fld gv5 k6)
      have f2:=mv (l5'.fld gw5 k6)
      have f3:=mv i6
      have g6:=l6.get
      have t6:=l6.lt
      simp only[tSemi,sr5,nl]at g6 e8
      simp[ht,u2,u3,u6,u7,e6,g6,t6,e8]
      exact⟨⟨by simp[ht],by simp[ht,u2],by simp[ht,u3],by simp[ht,u6],by simp[ht,u7]⟩,_,_,_,l8,f1,f2,f3⟩
    · have hi:isP L s2 tClaims=false:=hb
      rw[if_neg (by simp[hi])]at hx3
      cases hx3
      rw[takeS_no hi]at l5'
      simp[ht,u2,u3,u6,u7]
      exact⟨⟨by simp[ht],by simp[ht,u2],by simp[ht,u3],by simp[ht,u6],by simp[ht,u7]⟩,_,_,nl,l5',gv5,gw5,repItm.G_nil _ _⟩
    · rintro t K ⟨⟨ht,u2,u3,u6,u7⟩,v,w,x,lF,gv,gw,gx⟩
      obtain⟨bv,rfl⟩:=repDcl.G_slice gv
      obtain⟨bw,rfl⟩:=repPrc.G_slice gw
      obtain⟨bx,rfl⟩:=repItm.G_slice gx
      obtain⟨K5,e5,l5',k5⟩:=lF.must hE tBegin
      obtain⟨o,K6,e6,y,rfl,k6,d6,g6⟩:=(st_all hE (hB L) (hBr _ _ _) n).2.1 _ _ _ _ hx4 (by omega) (by omega) _ l5'.at_.rd
      have l6:=l5'.step k6 d6
      obtain⟨bb,rfl⟩:=repStm.G_slice g6
      have t5:=l5'.lt
      have g6':repStm.G K6 (fun i=>K2.n<i) (.slice bb bd.length bd.length) bd:=repStm.G_move (Same.refl (fun _=>False) _) (fun i hi _=>⟨by omega,fun h=>h⟩) g6
      have l7:=l6.put (sr5 nm (.slice bv ds.length ds.length) (.slice bw ps.length ps.length) (.slice bx cl.length cl.length) (.slice bb bd.length bd.length))
      obtain⟨K8,e8,l8,k8⟩:=l7.must hE tEnd
      obtain⟨K9,e9,l9,k9⟩:=l8.must hE (b1 46)
      have mv:∀ {α:Type} {ρ:Rep α} {v:Value} {q:List α},ρ.G K6 (fun i=>K2.n<i) v q→ρ.G K9 (fun i=>K2.n<i) v q:=fun g=>l8.fld (l7.fld (l6.fld_put g _) k8) k9
      have hS:RSrc K9 (fun i=>K2.n<i) ⟨nm,ds,ps,cl,bd⟩ (sr5 nm (.slice bv ds.length ds.length) (.slice bw ps.length ps.length) (.slice bx cl.length cl.length) (.slice bb bd.length bd.length)) :=
       ⟨_,_,_,_,rfl,mv (l5'.fld (lF.fld gv k5) k6),mv (l5'.fld (lF.fld gw k5) k6),mv (l5'.fld (lF.fld gx k5) k6),mv g6'⟩
      obtain⟨KT,eT,kT⟩:=now_run hE l9.at_.rd
      have lT:=l9.step (Same.none kT) (l9.at_.rd.same kT)
      have hST:=hS.move (Same.none kT:Same (·=HA.n+1) K9 KT) (S':=fun i=>K2.n<i) (fun i hi _=>⟨hi,by omega⟩)
      have gl6:=l6.get
      have tl6:=l6.lt
      generalize hs9:mustS L (mustS L s4 tEnd) (b1 46)=s9 at *
      generalize htk:tok L s9.p=tk at *
      simp only[tBegin,tEnd,b1,sr5,nl,Tk.v,Tk.cells]at e5 e6 gl6 e8 e9 eT
      simp[ht,u2,u3,u6,u7,e5,e6,gl6,tl6,e8,e9,eT]
      refine ends_cut (EndJ H Hp (HA.n+1) id L K2.n ⟨nm,ds,ps,cl,bd⟩ (endS L s9)) (ends_cond (fun hb => ?_) (fun hb => ?_)) ?_
      · have hk5:¬tk.kind=5:=by simpa using hb
        have he:endS L s9=faultS L s9 14:=by unfold endS;rw[htk,if_neg hk5]
        rw[he]
        obtain⟨KF,eF,lF2,kF⟩:=lT.fault hE 14
        simp[ht,u2,u3,u6,u7,eF]
        exact⟨⟨by simp[ht],by simp[ht,u2],by simp[ht,u3],by simp[ht,u6],by simp[ht,u7]⟩,_,lF2,hST.move kF (fun i hi _=>⟨hi,by omega⟩)⟩
      · have hk5:tk.kind=5:=by simpa using hb
        have he:endS L s9=s9:=by unfold endS;rw[htk,if_pos hk5]
        rw[he]
        simp[ht,u2,u3,u6,u7]
        exact⟨⟨by simp[ht],by simp[ht,u2],by simp[ht,u3],by simp[ht,u6],by simp[ht,u7]⟩,_,lT,hST⟩
      · rintro t K ⟨⟨ht,u2,u3,u6,u7⟩,sc,lF,hS⟩
        have eb:=bad_run hE lF.at_.rd
        have hobj:=lF.at_.rd.obj
        have gk0:=lF.at_.same.at gp0 (by simp) (by omega)
        have gk1:=lF.at_.same.at gp1 (by simp) (by omega)
        have gl:=lF.get
        have tl:=lF.lt
        have kK:Same (fun _=>False) H K:=kHp.then lF.at_.same (fun i hi => .inr (by omega))
        have nK:=lF.at_.n
        have q0:H.n<K.n:=by omega
        have q1:H.n+1<K.n:=by omega
        simp only at hx5
        subst hx5
        by_cases hc:(endS L s9).c=0
        · simp only[hc,if_pos]
          obtain⟨y,a1,a2,a3,b1',b2,b3,c1,c2,c3,d1',d2',d3,rfl⟩:=hS.slices
          simp only[sr5]at gl hS
          simp[ht,u2,u3,u6,u7,eb,hc,gl,gk0,gk1,q0,q1]
          refine⟨(kK.then_set q0 (.inr (by omega)) _).then_set (by simp;omega) (.inr (by omega)) _,_,rfl,?_⟩
          refine RSrc.move (X:=fun i=>i=H.n∨i=H.n+1) ?_ (S:=fun i=>K2.n<i) (fun i hi _=>⟨by omega,by omega⟩) hS
          exact (Same.set (X:=fun i=>i=H.n∨i=H.n+1) K q0 (.inl rfl) _).trans (Same.set (X:=fun i=>i=H.n∨i=H.n+1) _ (by simpa using q1) (.inr rfl) _)
        · simp only[hc,if_neg]
          simp[ht,u2,u3,u6,u7,eb,hc]
          refine region_plan (by exact pl_parse2) ?_
          simp[ht,u2,u3,u6,u7,hobj,gk0,gk1,q0,q1,show ¬HA.n+1=H.n by omega,show ¬HA.n+1=H.n+1 by omega]
          refine⟨(kK.then_set q0 (.inr (by omega)) _).then_set (by simp;omega) (.inr (by omega)) _,?_⟩
          simp[sr5]
end
end Go.Vm.Parse
namespace Go.Vm.Parse
open Go Go.Proofs
theorem take_on {L:List Tk}{s:PS}{x:ByteArray}(h:isP L s x=true):(takeS L s x).p=s.p+1:=by unfold takeS;rw[if_pos h]
theorem argsL_tot (L:List Tk)(lv:Int):∀ M s acc again,L.length - s.p≤M→Tot fun n=>argsL L lv n acc again s:=by
 intro M
 induction M using Nat.strongRecOn with
 | _ M ih =>
 intro s acc again hM
 refine Tot.succ ?_ (fun n=>by rw[argsL])
 refine Tot.ite (fun _ => ?_) (fun _=>Tot.pure _)
 refine (row_ans L s lv).bind fun n q hq => ?_
 by_cases hi:isP L q.2 comma=true
 · have h1:=isP_lt hi
   have h2:=(x_le L _ _ _ _ _ hq).1.place
   exact ih (L.length - (takeS L q.2 comma).p) (by rw[take_on hi];omega) _ _ _ (Nat.le_refl _)
 · exact Tot.succ (Tot.pure _) (fun n=>by rw[argsL,if_neg (fun h=>hi h.1)])
theorem argsP_tot (L:List Tk)(lv:Int)(s:PS):Tot fun n=>argsP L n lv s:=by
 unfold argsP
 exact Tot.ite (fun _=>Tot.pure _) (fun _=>(argsL_tot L lv _ _ _ _ (Nat.le_refl _)).map _)
theorem itemsL_tot (L:List Tk):∀ M s acc again,L.length - s.p≤M→Tot fun n=>itemsL L n acc again s:=by
 intro M
 induction M using Nat.strongRecOn with
 | _ M ih =>
 intro s acc again hM
 refine Tot.succ ?_ (fun n=>by rw[itemsL])
 refine Tot.ite (fun _ => ?_) (fun _=>Tot.pure _)
 by_cases hi:isP L (numS L (nameS L s)) comma=true
 · have h1:=isP_lt hi
   have h2:=((nameS_le L s).1.le_trans (numS_le L _)).place
   exact ih (L.length - (takeS L (numS L (nameS L s)) comma).p) (by rw[take_on hi];omega) _ _ _ (Nat.le_refl _)
 · exact Tot.succ (Tot.pure _) (fun n=>by rw[itemsL,if_neg (fun h=>hi h.1)])
theorem items_ans (L:List Tk)(s:PS):Tot fun n=>itemsL L n [] true s:=itemsL_tot L _ _ _ _ (Nat.le_refl _)
theorem identsL_tot (L:List Tk):∀ M s acc again,L.length - s.p≤M→Tot fun n=>identsL L n acc again s:=by
 intro M
 induction M using Nat.strongRecOn with
 | _ M ih =>
 intro s acc again hM
 refine Tot.succ ?_ (fun n=>by rw[identsL])
 refine Tot.ite (fun _ => ?_) (fun _=>Tot.pure _)
 by_cases hi:isP L (nameS L s) comma=true
 · have h1:=isP_lt hi
   have h2:=(nameS_le L s).1.place
   exact ih (L.length - (takeS L (nameS L s) comma).p) (by rw[take_on hi];omega) _ _ _ (Nat.le_refl _)
 · exact Tot.succ (Tot.pure _) (fun n=>by rw[identsL,if_neg (fun h=>hi h.1)])
theorem varsL_tot (L:List Tk):∀ M s acc,L.length - s.p≤M→Tot fun n=>varsL L n acc s:=by
 intro M
 induction M using Nat.strongRecOn with
 | _ M ih =>
 intro s acc hM
 refine Tot.succ ?_ (fun n=>by rw[varsL])
 refine Tot.ite (fun hi => ?_) (fun _=>Tot.pure _)
 have h1:=isP_lt hi
 have h2:=((nameS_le L s.on).1.le_trans (mustS_le L _ tSemi)).place
 have h3:s.on.p=s.p+1:=rfl
 exact ih (L.length - (mustS L (nameS L s.on) tSemi).p) (by omega) _ _ (Nat.le_refl _)
theorem branP_tot (L:List Tk)(lv:Int)(s:PS):Tot fun n=>branP L n lv s:=by
 unfold branP
 refine (argsP_tot L lv _).bind fun n a ha => ?_
 exact Tot.ite (fun _=>(items_ans L _).map _) (fun _=>Tot.pure _)
def BTot (B:BrP)(L:List Tk):Prop:=∀ lv s,Tot fun n=>B L n lv s
theorem branL_tot {B:BrP}{L:List Tk}(hB:BLt B L)(hT:BTot B L)(lv:Int):∀ M s acc again,L.length - s.p≤M→Tot fun n=>branL B L lv n acc again s:=by
 intro M
 induction M using Nat.strongRecOn with
 | _ M ih =>
 intro s acc again hM
 refine Tot.succ ?_ (fun n=>by rw[branL])
 refine Tot.ite (fun _ => ?_) (fun _=>Tot.pure _)
 refine (hT lv s).bind fun n q hq => ?_
 by_cases hi:isP L q.2 tSlash=true
 · have h1:=isP_lt hi
   have h2:=(hB _ _ _ _ _ hq).le.place
   exact ih (L.length - (takeS L q.2 tSlash).p) (by rw[take_on hi];omega) _ _ _ (Nat.le_refl _)
 · exact Tot.succ (Tot.pure _) (fun n=>by rw[branL,if_neg (fun h=>hi h.1)])
theorem namedP_tot (L:List Tk)(lv:Int)(s:PS):Tot fun n=>namedP L n lv s:=by
 unfold namedP
 refine Tot.ite (fun _=>(argsP_tot L lv _).map _) (fun _ => ?_)
 refine Tot.ite (fun _ => ?_) (fun _=>(row_ans L _ lv).map _)
 exact (x_ans L _ (.index lv) trivial).bind fun n i _=>(row_ans L _ lv).map _
theorem st_tot {B:BrP}{L:List Tk}(hB:BLt B L)(hT:BTot B L):∀ M s,L.length - s.p≤M →
  (∀ lv,Tot fun n=>stmtP B L n lv s)∧(∀ lv acc again,Tot fun n=>stmtsL B L n lv acc again s)∧(∀ o lv,Tot fun n=>blockP B L n o lv s):=by
 intro M
 induction M using Nat.strongRecOn with
 | _ M ih =>
 intro s hM
 have ih':∀ s':PS,s.p<L.length→s.p<s'.p→(∀ lv,Tot fun n=>stmtP B L n lv s')∧(∀ lv acc again,Tot fun n=>stmtsL B L n lv acc again s')∧(∀ o lv,Tot fun n=>blockP B L n o lv s') :=
  fun s' h1 h2=>ih (L.length - s'.p) (by omega) s' (Nat.le_refl _)
 have hon:s.on.p=s.p+1:=rfl
 have tS:∀ lv,Tot fun n=>stmtP B L n lv s:=fun lv=>by
  refine Tot.succ ?_ (fun n=>by rw[stmtP])
  refine Tot.ite (fun _=>namedP_tot L lv s) (fun _ => ?_)
  refine Tot.ite (fun _=>Tot.pure _) (fun _ => ?_)
  refine Tot.ite (fun hi => ?_) (fun _ => ?_)
  · refine (row_ans L s.on lv).bind fun n x hx => ?_
    have h1:=(x_le L _ _ _ _ _ hx).1.place
    refine ((ih' x.2 (isP_lt hi) (by omega)).2.2 tThen lv).bind fun n b hb => ?_
    have h2:=((st_le hB n).2.2 _ _ _ _ _ hb).place
    exact Tot.ite (fun _=>((ih' b.2 (isP_lt hi) (by omega)).2.2 tElse lv).map _) (fun _=>Tot.pure _)
  refine Tot.ite (fun hi => ?_) (fun _ => ?_)
  · refine (row_ans L s.on lv).bind fun n x hx => ?_
    have h1:=(x_le L _ _ _ _ _ hx).1.place
    exact ((ih' x.2 (isP_lt hi) (by omega)).2.2 tDo lv).map _
  refine Tot.ite (fun hi=>(branL_tot hB hT lv _ _ _ _ (Nat.le_refl _)).map _) (fun _ => ?_)
  refine Tot.ite (fun hi=>Tot.pure _) (fun _ => ?_)
  refine Tot.ite (fun hi => ?_) (fun _ => ?_)
  · have h0:=(nameS_le L s.on).1.place
    refine Tot.ite (fun hw => ?_) (fun _ => ?_)
    · refine (row_ans L _ lv).bind fun n x hx => ?_
      have h1:=(x_le L _ _ _ _ _ hx).1.place
      have h3:(nameS L s.on).on.p=(nameS L s.on).p+1:=rfl
      exact ((ih' x.2 (isP_lt hi) (by omega)).2.2 tDo lv).map _
    · exact ((ih' (nameS L s.on) (isP_lt hi) (by omega)).2.2 tDo lv).map _
  refine Tot.ite (fun hi=>(items_ans L _).map _) (fun _ => ?_)
  refine Tot.ite (fun hi=>(items_ans L _).map _) (fun _ => ?_)
  refine Tot.ite (fun hi => ?_) (fun _ => ?_)
  · exact Tot.ite (fun hw=>(x_ans L _ (.index lv) trivial).map _) (fun _=>Tot.pure _)
  exact Tot.ite (fun hi=>(row_ans L _ lv).map _) (fun _=>Tot.pure _)
 have tL:∀ lv acc again,Tot fun n=>stmtsL B L n lv acc again s:=fun lv acc again=>by
  refine Tot.succ ?_ (fun n=>by rw[stmtsL])
  refine Tot.ite (fun _ => ?_) (fun _=>Tot.pure _)
  refine (tS lv).bind fun n q hq => ?_
  by_cases hi:isP L q.2 tSemi=true
  · have h1:=isP_lt hi
    have h2:=((st_le hB n).1 _ _ _ _ hq).le.place
    exact (ih' (takeS L q.2 tSemi) (by omega) (by rw[take_on hi];omega)).2.1 lv _ _
  · exact Tot.succ (Tot.pure _) (fun n=>by rw[stmtsL,if_neg (fun h=>hi h.1)])
 refine⟨tS,tL,fun o lv => ?_⟩
 refine Tot.succ ?_ (fun n=>by rw[blockP])
 refine Tot.ite (fun _=>Tot.pure _) (fun hi => ?_)
 refine Tot.ite (fun _=>Tot.pure _) (fun _ => ?_)
 exact (ih' _ (isP_lt (x:=o) (by simpa using hi)) (by show s.p<(opensS L s (lv+1)).p+1;rw[opensS_p];omega)).2.1 _ _ _
theorem stmts_ans {B:BrP}{L:List Tk}(hB:BLt B L)(hT:BTot B L)(lv:Int)(s:PS):Tot fun n=>stmtsL B L n lv [] true s:=(st_tot hB hT _ s (Nat.le_refl _)).2.1 lv [] true
theorem kindP_lt {L:List Tk}{s:PS}(h:kindP L s≠0):s.p<L.length:=by
 unfold kindP at h
 split at h
 · rename_i hi;exact isP_lt hi
 · split at h
   · rename_i hi;exact isP_lt hi
   · split at h
     · rename_i hi;exact isP_lt hi
     · split at h
       · rename_i hi;exact isP_lt hi
       · exact absurd rfl h
theorem declsL_tot (L:List Tk):∀ M s acc,L.length - s.p≤M→Tot fun n=>declsL L n acc s:=by
 intro M
 induction M using Nat.strongRecOn with
 | _ M ih =>
 intro s acc hM
 refine Tot.succ ?_ (fun n=>by rw[declsL])
 refine Tot.ite (fun _ => ?_) (fun _=>Tot.pure _)
 refine Tot.ite (fun _=>Tot.pure _) (fun hk => ?_)
 have h1:=kindP_lt hk
 have h2:=(dclS_lt L (kindP L s) s.on).place
 have h3:s.on.p=s.p+1:=rfl
 exact ih (L.length - (dclS L (kindP L s) s.on).p) (by omega) _ _ (Nat.le_refl _)
theorem procP_tot {B:BrP}{L:List Tk}(hB:BLt B L)(hT:BTot B L)(s:PS):Tot fun n=>procP B L n s:=by
 unfold procP
 refine Tot.bind ?_ fun n a _ => ?_
 · unfold paramsP
   exact Tot.ite (fun _=>Tot.pure _) (fun _=>identsL_tot L _ _ _ _ (Nat.le_refl _))
 refine (varsL_tot L _ _ _ (Nat.le_refl _)).bind fun n b _ => ?_
 exact (stmts_ans hB hT 1 _).map _
theorem procsL_tot {B:BrP}{L:List Tk}(hB:BLt B L)(hT:BTot B L):∀ M s acc,L.length - s.p≤M→Tot fun n=>procsL B L n acc s:=by
 intro M
 induction M using Nat.strongRecOn with
 | _ M ih =>
 intro s acc hM
 refine Tot.succ ?_ (fun n=>by rw[procsL])
 refine Tot.ite (fun hi => ?_) (fun _=>Tot.pure _)
 refine (procP_tot hB hT s.on).bind fun n q hq => ?_
 have h1:=isP_lt hi
 have h2:=(procP_lt hB (show procP B L n s.on=some (q.1,q.2)from hq)).le.place
 have h3:s.on.p=s.p+1:=rfl
 exact ih (L.length - q.2.p) (by omega) _ _ (Nat.le_refl _)
theorem srcP_tot {B:BrP}{L:List Tk}(hB:BLt B L)(hT:BTot B L):Tot fun n=>srcP B L n:=by
 unfold srcP
 refine (declsL_tot L _ _ _ (Nat.le_refl _)).bind fun n d _ => ?_
 refine (procsL_tot hB hT _ _ _ (Nat.le_refl _)).bind fun n p _ => ?_
 refine Tot.bind ?_ fun n c _=>(stmts_ans hB hT 1 _).map _
 unfold claimsP
 exact Tot.ite (fun _=>(items_ans L _).map _) (fun _=>Tot.pure _)
theorem branP_BLt (L:List Tk):BLt branP L:=fun n lv s b s' h=>branP_lt h
theorem branP_BTot (L:List Tk):BTot branP L:=fun lv s=>branP_tot L lv s
theorem parse_ans (src:List UInt8):∃ n r,parseP branP src n=some r:=by
 obtain⟨q,hq⟩:=lex_ans src (src.length+1) 0 [] (Nat.zero_le _) (by omega)
 unfold parseP
 rw[hq]
 cases q with
 | inr f=>exact⟨0,_,rfl⟩
 | inl L=>obtain⟨n,r,h⟩:=(srcP_tot (branP_BLt L) (branP_BTot L)).some;exact⟨n,r,h⟩
def BinOp (o:Int):Prop:=(9≤o∧o≤13)∨(15≤o∧o≤22)
def most:Int:=9223372036854775807
def ExOK (kind num op:Int)(name:ByteArray)(n:Nat):Prop :=
 (kind=1∧n=0∧op=0∧name=ByteArray.empty)∨(kind=2∧n=0∧op=0∧(num=0∨num=1)∧name=ByteArray.empty)∨(kind=3∧n=0∧num=0∧op=0)∨(kind=4∧n=1∧num=0∧op=0) ∨
 (kind=5∧n=1∧num=0∧(op=23∨op=14)∧name=ByteArray.empty)∨(kind=6∧n=2∧num=0∧BinOp op∧name=ByteArray.empty)
mutual
def WFx:Ex→Prop
 | .mk kind at_ num op name sub=>ExOK kind num op name sub.length∧0≤num∧num≤most∧WFxs sub
def WFxs:List Ex→Prop
 | []=>True
 | e :: es=>WFx e∧WFxs es
end
theorem WFxs.mem:∀ {l:List Ex},WFxs l→∀ e∈l,WFx e
 | [],_,e,h=>by cases h
 | a :: l, h, e, he => by
  simp only[WFxs]at h
  rcases List.mem_cons.1 he with rfl | he
  · exact h.1
  · exact WFxs.mem h.2 e he
theorem WFxs.of:∀ {l:List Ex},(∀ e∈l,WFx e)→WFxs l
 | [],_=>by simp only[WFxs]
 | a :: l,h=>by simp only[WFxs];exact⟨h a (by simp),WFxs.of fun e he=>h e (by simp[he])⟩
theorem WFxs.snoc {l:List Ex}{e:Ex}(h:WFxs l)(he:WFx e):WFxs (l++[e]) :=
 WFxs.of fun x hx=>by
  rcases List.mem_append.1 hx with hx | hx
  · exact h.mem x hx
  · rw[List.mem_singleton.1 hx];exact he
theorem WFx.put {kind at_ num op:Int}{name:ByteArray}{sub:List Ex}(h:ExOK kind num op name sub.length)(h1:0≤num)(h2:num≤most)(h3:WFxs sub):WFx (.mk kind at_ num op name sub):=by
 simp only[WFx];exact⟨h,h1,h2,h3⟩
theorem WFxs.nil:WFxs []:=by simp only[WFxs]
theorem WFxs.one {e:Ex}(h:WFx e):WFxs [e]:=by simp only[WFxs];exact⟨h,trivial⟩
theorem WFxs.two {a b:Ex}(h:WFx a)(k:WFx b):WFxs [a,b]:=by simp only[WFxs];exact⟨h,k,trivial⟩
def NumsOK (L:List Tk):Prop:=∀ t∈L,0≤t.num∧t.num≤most
theorem NumsOK.tok {L:List Tk}(h:NumsOK L)(p:Nat):0≤(tok L p).num∧(tok L p).num≤most:=by
 unfold Parse.tok
 rw[List.getD_eq_getElem?_getD]
 cases e:L[p]? with
 | none=>exact⟨by decide,by decide⟩
 | some t=>exact h t (List.mem_of_getElem? e)
theorem numFrom_ok:∀ {l:List UInt8}{n m:Int},(∀ b∈l,digitB b=true)→0≤n→n≤most→numFrom l n=some m→0≤m∧m≤most
 | [],n,m,_,h0,h1,h=>by cases h;exact⟨h0,h1⟩
 | b :: bs, n, m, hd, h0, h1, h => by
  rw[numFrom]at h
  have hb:=hd b (by simp)
  unfold digitB at hb
  simp only[decide_eq_true_eq]at hb
  split at h
  · cases h
  · rename_i hn
    refine numFrom_ok (fun c hc=>hd c (by simp[hc])) (by omega) ?_ h
    unfold most
    omega
theorem span_digits (src:List UInt8)(p:UInt8→Bool){a:Nat}(ha:a<src.length)(h:p src[a]=true):∀ b∈(src.drop a).take (spanTo p src (a+1) - a),p b=true:=by
 intro b hb
 unfold spanTo at hb
 rw[List.drop_eq_getElem_cons ha,show a+1+((src.drop (a+1)).takeWhile p).length - a=((src.drop (a+1)).takeWhile p).length+1 by omega,List.take_succ_cons]at hb
 rcases List.mem_cons.1 hb with rfl | hb
 · exact h
 · have e:(src.drop (a+1)).take ((src.drop (a+1)).takeWhile p).length=(src.drop (a+1)).takeWhile p:=by
    generalize src.drop (a+1)=l
    induction l with
    | nil=>rfl
    | cons x l ih =>
     rw[List.takeWhile_cons]
     split
     · simp only[List.length_cons,List.take_succ_cons,ih]
     · rfl
   rw[e]at hb
   generalize src.drop (a+1)=l at hb
   induction l with
   | nil=>cases hb
   | cons x l ih =>
    rw[List.takeWhile_cons]at hb
    split at hb
    · rcases List.mem_cons.1 hb with rfl | hb
      · assumption
      · exact ih hb
    · cases hb
theorem lexStep_num {src:List UInt8}{a to:Nat}(ha:a<src.length){t:Tk}(h:lexStep src a src[a] = .more to (some t)):0≤t.num∧t.num≤most:=by
 have z:(0:Int)≤0∧(0:Int)≤most:=⟨by decide,by decide⟩
 unfold lexStep at h
 split at h
 · cases h
 split at h
 · split at h<;>cases h
 split at h
 · cases h;exact z
 split at h
 · split at h
   · cases h;exact z
   · split at h
     · cases h
     · cases h;exact z
 split at h
 · rename_i hd
   split at h
   · cases h
   · rename_i n hn
     cases h
     exact numFrom_ok (span_digits src digitB ha hd) (by decide) (by decide) hn
 split at h
 · cases h
 · cases h;exact z
theorem lexFrom_nums {src:List UInt8}:∀ {n a:Nat}{out l:List Tk},NumsOK out→lexFrom src n a out=some (.inl l)→NumsOK l
 | 0,_,_,_,_,h=>by cases h
 | n + 1, a, out, l, ho, h => by
  rw[lexFrom]at h
  split at h
  · rename_i ha
    split at h
    · cases h
    · exact lexFrom_nums ho h
    · rename_i to t ht
      refine lexFrom_nums (fun x hx => ?_) h
      rcases List.mem_append.1 hx with hx | hx
      · exact ho x hx
      · rw[List.mem_singleton.1 hx];exact lexStep_num ha ht
  · cases h
    intro x hx
    rcases List.mem_append.1 hx with hx | hx
    · exact ho x hx
    · rw[List.mem_singleton.1 hx];exact⟨Int.le_refl 0,by show (0:Int)≤most;decide⟩
theorem opFrom_ok (k:Int)(x:ByteArray):∀ l:List (ByteArray × Int × Int),(∀ q∈l,BinOp q.2.2)→opFrom k x l≠0→BinOp (opFrom k x l)
 | [],_,h=>absurd rfl h
 | (t, r, o) :: l, ho, h => by
  rw[opFrom]at h ⊢
  split
  · exact ho (t,r,o) (by simp)
  · rename_i hc
    rw[if_neg hc]at h
    exact opFrom_ok k x l (fun q hq=>ho q (by simp[hq])) h
theorem opsL_ok:∀ q∈opsL,BinOp q.2.2:=by
 have:opsL.all (fun q=>decide ((9≤q.2.2∧q.2.2≤13)∨(15≤q.2.2∧q.2.2≤22)))=true:=by decide +kernel
 intro q hq
 have h:=List.all_eq_true.1 this q hq
 simp only[decide_eq_true_eq]at h
 exact h
theorem opP_ok {L:List Tk}{s:PS}{k:Int}(h:opP L s k≠0):BinOp (opP L s k):=by
 unfold opP at h ⊢
 split
 · rename_i hc;rw[if_pos hc]at h;exact opFrom_ok _ _ _ opsL_ok h
 · rename_i hc;rw[if_neg hc]at h;exact absurd rfl h
variable {L:List Tk}
def XC.arg:XC→Prop
 | .loop _ _ x=>WFx x
 | _=>True
theorem x_wf (hN:NumsOK L):∀ n cmd s e s',xP L n cmd s=some (e,s')→s'.c=0→cmd.arg→WFx e:=by
 intro n
 induction n with
 | zero=>intro cmd s e s' h;cases h
 | succ n ih =>
  intro cmd s e s' h h0 ha
  have tk:=hN.tok s.p
  have z:(0:Int)≤0∧(0:Int)≤most:=⟨by decide,by decide⟩
  cases cmd with
  | row k lv =>
   rw[xP]at h
   split at h
   · rename_i hc;cases h;exact absurd h0 hc
   · split at h
     · exact ih _ _ _ _ h h0 trivial
     · split at h
       · split at h
         · exact ih _ _ _ _ h h0 trivial
         · split at h
           · rename_i ho;cases h;exact absurd h0 ho
           · simp only[Option.map_eq_some_iff]at h
             obtain⟨⟨e1,s1⟩,h1,h2⟩:=h
             cases h2
             exact WFx.put (Or.inr (Or.inr (Or.inr (Or.inr (Or.inl ⟨rfl,rfl,rfl,Or.inl rfl,rfl⟩))))) (z.1) (z.2) (WFxs.one (ih _ _ _ _ h1 h0 trivial))
       · simp only[Option.bind_eq_some_iff]at h
         obtain⟨⟨e1,s1⟩,h1,h2⟩:=h
         exact ih _ _ _ _ h2 h0 (ih _ _ _ _ h1 ((x_le L _ _ _ _ _ h2).1.code h0) trivial)
  | loop k lv x =>
   rw[xP]at h
   split at h
   · cases h;exact ha
   · rename_i hop
     simp only[Option.bind_eq_some_iff]at h
     obtain⟨⟨e1,s1⟩,h1,h2⟩:=h
     have w:s1.c=0→WFx (.mk 6 (tok L s.p).at_ 0 (opP L s k) ByteArray.empty [x,e1]):=fun h0=>by
      exact WFx.put (Or.inr (Or.inr (Or.inr (Or.inr (Or.inr ⟨rfl,rfl,rfl,opP_ok hop,rfl⟩))))) (z.1) (z.2) (WFxs.two ha (ih _ _ _ _ h1 h0 trivial))
     split at h2
     · cases h2;exact w h0
     · exact ih _ _ _ _ h2 h0 (w ((x_le L _ _ _ _ _ h2).1.code h0))
  | fact lv =>
   rw[xP]at h
   split at h
   · split at h
     · rename_i ho;cases h;exact absurd h0 ho
     · simp only[Option.map_eq_some_iff]at h
       obtain⟨⟨e1,s1⟩,h1,h2⟩:=h
       cases h2
       exact WFx.put (Or.inr (Or.inr (Or.inr (Or.inr (Or.inl ⟨rfl,rfl,rfl,Or.inr rfl,rfl⟩))))) (z.1) (z.2) (WFxs.one (ih _ _ _ _ h1 h0 trivial))
   · split at h
     · cases h
       exact WFx.put (Or.inl ⟨rfl,rfl,rfl,rfl⟩) (tk.1) (tk.2) (WFxs.nil)
     · split at h
       · cases h
         exact WFx.put (Or.inr (Or.inl ⟨rfl,rfl,rfl,Or.inr rfl,rfl⟩)) (by decide) (by decide) (WFxs.nil)
       · split at h
         · cases h
           exact WFx.put (Or.inr (Or.inl ⟨rfl,rfl,rfl,Or.inl rfl,rfl⟩)) (by decide) (by decide) (WFxs.nil)
         · split at h
           · split at h
             · rename_i ho;cases h;exact absurd h0 ho
             · simp only[Option.map_eq_some_iff]at h
               obtain⟨⟨e1,s1⟩,h1,h2⟩:=h
               cases h2
               exact ih _ _ _ _ h1 ((mustS_le _ _ _).code h0) trivial
           · split at h
             · split at h
               · cases h
                 exact WFx.put (Or.inr (Or.inr (Or.inl ⟨rfl,rfl,rfl,rfl⟩))) (z.1) (z.2) (WFxs.nil)
               · simp only[Option.map_eq_some_iff]at h
                 obtain⟨⟨e1,s1⟩,h1,h2⟩:=h
                 cases h2
                 exact WFx.put (Or.inr (Or.inr (Or.inr (Or.inl ⟨rfl,rfl,rfl,rfl⟩)))) (z.1) (z.2) (WFxs.one (ih _ _ _ _ h1 h0 trivial))
             · cases h;exact absurd h0 (faultS_le L s (by omega)).2
  | index lv =>
   rw[xP]at h
   split at h
   · cases h;exact absurd h0 (faultS_le L s (by omega)).2
   · split at h
     · cases h;exact absurd h0 (faultS_le L _ (by omega)).2
     · simp only[Option.map_eq_some_iff]at h
       obtain⟨⟨e1,s1⟩,h1,h2⟩:=h
       cases h2
       exact ih _ _ _ _ h1 ((mustS_le _ _ _).code h0) trivial
def ItmOK (i:Itm):Prop:=0≤i.n∧i.n≤most
def BraOK (b:Bra):Prop:=WFxs b.args∧∀ i∈b.claims,ItmOK i
structure StOK (kind:Int)(ne nbody nels nbr nitems:Nat):Prop where
 lo:1≤kind
 hi:kind≤15
 e:(kind=1∨kind=7∨kind=8∨kind=9∨kind=11∨kind=12∨kind=13→ne=0)∧(kind=2∨kind=4∨kind=5∨kind=14∨kind=15→ne=1)∧(kind=3→ne=2)∧(kind=10→ne≤1)
 body:kind≠4→kind≠5→kind≠10→nbody=0
 els:kind≠4→nels=0
 br:kind≠7→nbr=0
 items:kind≠11→kind≠12→nitems=0
mutual
def WFs:Stm→Prop
 | .mk kind at_ name e body els br items=>StOK kind e.length body.length els.length br.length items.length∧WFxs e∧WFss body∧WFss els∧(∀ b∈br,BraOK b)∧∀ i∈items,ItmOK i
def WFss:List Stm→Prop
 | []=>True
 | s :: l=>WFs s∧WFss l
end
theorem WFss.mem:∀ {l:List Stm},WFss l→∀ e∈l,WFs e
 | [],_,e,h=>by cases h
 | a :: l, h, e, he => by
  simp only[WFss]at h
  rcases List.mem_cons.1 he with rfl | he
  · exact h.1
  · exact WFss.mem h.2 e he
theorem WFss.of:∀ {l:List Stm},(∀ e∈l,WFs e)→WFss l
 | [],_=>by simp only[WFss]
 | a :: l,h=>by simp only[WFss];exact⟨h a (by simp),WFss.of fun e he=>h e (by simp[he])⟩
theorem WFss.snoc {l:List Stm}{e:Stm}(h:WFss l)(he:WFs e):WFss (l++[e]) :=
 WFss.of fun x hx=>by
  rcases List.mem_append.1 hx with hx | hx
  · exact h.mem x hx
  · rw[List.mem_singleton.1 hx];exact he
theorem numP_ok (hN:NumsOK L)(s:PS):0≤(numP L s).1∧(numP L s).1≤most:=by
 unfold numP
 split
 · exact hN.tok _
 · exact⟨by decide,by decide⟩
theorem all_snoc {α:Type}{Q:α→Prop}{l:List α}{a:α}(h:∀ x∈l,Q x)(ha:Q a):∀ x∈l++[a],Q x:=fun x hx=>by
 rcases List.mem_append.1 hx with hx | hx
 · exact h x hx
 · rw[List.mem_singleton.1 hx];exact ha
theorem itemsL_wf (hN:NumsOK L):∀ {n:Nat}{acc:List Itm}{again:Bool}{s s':PS}{l:List Itm},itemsL L n acc again s=some (l,s')→(∀ i∈acc,ItmOK i)→∀ i∈l,ItmOK i
 | 0,_,_,_,_,_,h,_=>by cases h
 | n + 1, acc, again, s, s', l, h, ha => by
  rw[itemsL]at h
  split at h
  · exact itemsL_wf hN h (all_snoc ha (numP_ok hN _))
  · cases h;exact ha
theorem argsL_wf (hN:NumsOK L){lv:Int}:∀ {n:Nat}{acc:List Ex}{again:Bool}{s s':PS}{l:List Ex},argsL L lv n acc again s=some (l,s')→s'.c=0→WFxs acc→WFxs l
 | 0,_,_,_,_,_,h,_,_=>by cases h
 | n + 1, acc, again, s, s', l, h, h0, ha => by
  rw[argsL]at h
  split at h
  · simp only[Option.bind_eq_some_iff]at h
    obtain⟨⟨x,s1⟩,h1,h2⟩:=h
    exact argsL_wf hN h2 h0 (ha.snoc (x_wf hN _ _ _ _ _ h1 ((takeS_le _ _ _).code ((argsL_le h2).code h0)) trivial))
  · cases h;exact ha
theorem argsP_wf (hN:NumsOK L){n:Nat}{lv:Int}{s s':PS}{l:List Ex}(h:argsP L n lv s=some (l,s'))(h0:s'.c=0):WFxs l:=by
 unfold argsP at h
 split at h
 · cases h;simp only[WFxs]
 · simp only[Option.map_eq_some_iff]at h
   obtain⟨⟨x,s1⟩,h1,h2⟩:=h
   cases h2
   exact argsL_wf hN h1 ((mustS_le _ _ _).code h0) (by simp only[WFxs])
theorem branP_wf (hN:NumsOK L){n:Nat}{lv:Int}{s s':PS}{b:Bra}(h:branP L n lv s=some (b,s'))(h0:s'.c=0):BraOK b:=by
 unfold branP at h
 simp only[Option.bind_eq_some_iff]at h
 obtain⟨⟨a,s1⟩,h1,h2⟩:=h
 split at h2
 · simp only[Option.map_eq_some_iff]at h2
   obtain⟨⟨x,s2⟩,h3,h4⟩:=h2
   cases h4
   exact⟨argsP_wf hN h1 ((PS.le_on _).code ((itemsL_le h3).code h0)),itemsL_wf hN h3 (fun i hi=>by cases hi)⟩
 · cases h2
   exact⟨argsP_wf hN h1 h0,fun i hi=>by cases hi⟩
theorem branL_wf (hN:NumsOK L){lv:Int}:∀ {n:Nat}{acc:List Bra}{again:Bool}{s s':PS}{l:List Bra},branL branP L lv n acc again s=some (l,s')→s'.c=0→(∀ b∈acc,BraOK b)→∀ b∈l,BraOK b
 | 0,_,_,_,_,_,h,_,_=>by cases h
 | n + 1, acc, again, s, s', l, h, h0, ha => by
  rw[branL]at h
  split at h
  · simp only[Option.bind_eq_some_iff]at h
    obtain⟨⟨x,s1⟩,h1,h2⟩:=h
    exact branL_wf hN h2 h0 (all_snoc ha (branP_wf hN h1 ((takeS_le _ _ _).code ((branL_le (branP_BLt L) h2).code h0))))
  · cases h;exact ha
theorem nil_all {α:Type}{Q:α→Prop}:∀ x∈([]:List α),Q x:=fun x h=>by cases h
theorem WFs.put {kind at_:Int}{name:ByteArray}{e:List Ex}{body els:List Stm}{br:List Bra}{items:List Itm}(h:StOK kind e.length body.length els.length br.length items.length)(h1:WFxs e)(h2:WFss body:=by simp only[WFss]) (h3:WFss els:=by simp only[WFss])
  (h4:∀ b∈br,BraOK b:=by exact nil_all) (h5:∀ i∈items,ItmOK i:=by exact nil_all):WFs (.mk kind at_ name e body els br items):=by
 simp only[WFs];exact⟨h,h1,h2,h3,h4,h5⟩
theorem namedP_wf (hN:NumsOK L){n:Nat}{lv:Int}{s s':PS}{x:Stm}(h:namedP L n lv s=some (x,s'))(h0:s'.c=0):WFs x:=by
 unfold namedP at h
 split at h
 · simp only[Option.map_eq_some_iff]at h
   obtain⟨⟨x,s1⟩,h1,h2⟩:=h
   cases h2
   exact WFs.put ⟨by omega,by omega,by simp,by simp,by simp,by simp,by simp⟩ (argsP_wf hN h1 h0)
 · split at h
   · simp only[Option.bind_eq_some_iff,Option.map_eq_some_iff]at h
     obtain⟨⟨i,s1⟩,h1,⟨x,s2⟩,h2,h3⟩:=h
     cases h3
     exact WFs.put ⟨by omega,by omega,by simp,by simp,by simp,by simp,by simp⟩ (WFxs.two (x_wf hN _ _ _ _ _ h1 ((mustS_le _ _ _).code ((x_lt h2).le.code h0)) trivial) (x_wf hN _ _ _ _ _ h2 h0 trivial))
   · simp only[Option.map_eq_some_iff]at h
     obtain⟨⟨x,s2⟩,h2,h3⟩:=h
     cases h3
     exact WFs.put ⟨by omega,by omega,by simp,by simp,by simp,by simp,by simp⟩ (WFxs.one (x_wf hN _ _ _ _ _ h2 h0 trivial))
theorem st_wf (hN:NumsOK L):∀ n,(∀ lv s x s',stmtP branP L n lv s=some (x,s')→s'.c=0→WFs x)∧(∀ lv acc again s l s',stmtsL branP L n lv acc again s=some (l,s')→s'.c=0→WFss acc→WFss l)∧(∀ o lv s l s',blockP branP L n o lv s=some (l,s')→s'.c=0→WFss l):=by
 have hB:=branP_BLt L
 intro n
 induction n with
 | zero=>exact⟨fun _ _ _ _ h=>(by rw[stmtP]at h;cases h),fun _ _ _ _ _ _ h=>(by rw[stmtsL]at h;cases h),fun _ _ _ _ _ h=>(by rw[blockP]at h;cases h)⟩
 | succ n ih =>
  have mc:=fun (s:PS) (x:ByteArray)=>(mustS_le L s x).code
  have nx:WFxs []:=by simp only[WFxs]
  refine⟨?_,?_,?_⟩
  · intro lv s x s' h h0
    rw[stmtP]at h
    by_cases c1:(tok L s.p).kind=1
    · rw[if_pos c1]at h;exact namedP_wf hN h h0
    rw[if_neg c1]at h
    by_cases c2:isP L s tSkip=true
    · rw[if_pos c2]at h;cases h
      exact WFs.put ⟨by omega,by omega,by simp,by simp,by simp,by simp,by simp⟩ nx
    rw[if_neg c2]at h
    by_cases c3:isP L s tIf=true
    · rw[if_pos c3]at h
      simp only[Option.bind_eq_some_iff]at h
      obtain⟨⟨x1,s1⟩,h1,⟨b1,s2⟩,h2,h3⟩:=h
      have fin:∀ (c:List Stm),s2.c=0→WFss c→WFs (.mk 4 (tok L s.p).at_ ByteArray.empty [x1] b1 c [] []):=fun c hc hw =>
       WFs.put ⟨by omega,by omega,by simp,by simp,by simp,by simp,by simp⟩ (WFxs.one (x_wf hN _ _ _ _ _ h1 (((st_le hB n).2.2 _ _ _ _ _ h2).code hc) trivial)) (ih.2.2 _ _ _ _ _ h2 hc) hw
      split at h3
      · simp only[Option.map_eq_some_iff]at h3
        obtain⟨⟨c1,s3⟩,h3,h4⟩:=h3
        cases h4
        have k:=mc _ _ h0
        exact fin _ (((st_le hB n).2.2 _ _ _ _ _ h3).code k) (ih.2.2 _ _ _ _ _ h3 k)
      · cases h3;exact fin _ (mc _ _ h0) (by simp only[WFss])
    rw[if_neg c3]at h
    by_cases c4:isP L s tWhile=true
    · rw[if_pos c4]at h
      simp only[Option.bind_eq_some_iff,Option.map_eq_some_iff]at h
      obtain⟨⟨x1,s1⟩,h1,⟨b1,s2⟩,h2,h3⟩:=h
      cases h3
      have k:=mc _ _ h0
      exact WFs.put ⟨by omega,by omega,by simp,by simp,by simp,by simp,by simp⟩ (WFxs.one (x_wf hN _ _ _ _ _ h1 (((st_le hB n).2.2 _ _ _ _ _ h2).code k) trivial)) (ih.2.2 _ _ _ _ _ h2 k)
    rw[if_neg c4]at h
    by_cases c5:isP L s tCobegin=true
    · rw[if_pos c5]at h
      simp only[Option.map_eq_some_iff]at h
      obtain⟨⟨b1,s2⟩,h2,h3⟩:=h
      cases h3
      exact WFs.put ⟨by omega,by omega,by simp,by simp,by simp,by simp,by simp⟩ nx (h4:=branL_wf hN h2 (mc _ _ h0) nil_all)
    rw[if_neg c5]at h
    by_cases c6:isP L s (b1 80)=true∨isP L s (b1 86)=true
    · rw[if_pos c6]at h
      cases h
      refine WFs.put ?_ nx
      split
      · exact⟨by omega,by omega,by simp,by simp,by simp,by simp,by simp⟩
      · exact⟨by omega,by omega,by simp,by simp,by simp,by simp,by simp⟩
    rw[if_neg c6]at h
    by_cases c7:isP L s tRegion=true
    · rw[if_pos c7]at h
      split at h
      · simp only[Option.bind_eq_some_iff,Option.map_eq_some_iff]at h
        obtain⟨⟨x1,s1⟩,h1,⟨b1,s2⟩,h2,h3⟩:=h
        cases h3
        have k:=mc _ _ h0
        exact WFs.put ⟨by omega,by omega,by simp,by simp,by simp,by simp,by simp⟩ (WFxs.one (x_wf hN _ _ _ _ _ h1 (((st_le hB n).2.2 _ _ _ _ _ h2).code k) trivial)) (ih.2.2 _ _ _ _ _ h2 k)
      · simp only[Option.map_eq_some_iff]at h
        obtain⟨⟨b1,s2⟩,h2,h3⟩:=h
        cases h3
        exact WFs.put ⟨by omega,by omega,by simp,by simp,by simp,by simp,by simp⟩ nx (ih.2.2 _ _ _ _ _ h2 (mc _ _ h0))
    rw[if_neg c7]at h
    by_cases c8:isP L s tRequest=true
    · rw[if_pos c8]at h
      simp only[Option.map_eq_some_iff]at h
      obtain⟨⟨b1,s2⟩,h2,h3⟩:=h
      cases h3
      exact WFs.put ⟨by omega,by omega,by simp,by simp,by simp,by simp,by simp⟩ nx (h5:=itemsL_wf hN h2 nil_all)
    rw[if_neg c8]at h
    by_cases c9:isP L s tRelease=true
    · rw[if_pos c9]at h
      simp only[Option.map_eq_some_iff]at h
      obtain⟨⟨b1,s2⟩,h2,h3⟩:=h
      cases h3
      exact WFs.put ⟨by omega,by omega,by simp,by simp,by simp,by simp,by simp⟩ nx (h5:=itemsL_wf hN h2 nil_all)
    rw[if_neg c9]at h
    by_cases c10:isP L s tRead=true
    · rw[if_pos c10]at h
      split at h
      · simp only[Option.map_eq_some_iff]at h
        obtain⟨⟨b1,s2⟩,h2,h3⟩:=h
        cases h3
        exact WFs.put ⟨by omega,by omega,by simp,by simp,by simp,by simp,by simp⟩ (WFxs.one (x_wf hN _ _ _ _ _ h2 h0 trivial))
      · cases h;exact WFs.put ⟨by omega,by omega,by simp,by simp,by simp,by simp,by simp⟩ nx
    rw[if_neg c10]at h
    by_cases c11:isP L s tWrite=true
    · rw[if_pos c11]at h
      simp only[Option.map_eq_some_iff]at h
      obtain⟨⟨b1,s2⟩,h2,h3⟩:=h
      cases h3
      exact WFs.put ⟨by omega,by omega,by simp,by simp,by simp,by simp,by simp⟩ (WFxs.one (x_wf hN _ _ _ _ _ h2 h0 trivial))
    rw[if_neg c11]at h
    cases h;exact absurd h0 (faultS_le L s (by omega)).2
  · intro lv acc again s l s' h h0 ha
    rw[stmtsL]at h
    split at h
    · simp only[Option.bind_eq_some_iff]at h
      obtain⟨⟨x,s1⟩,h1,h2⟩:=h
      exact ih.2.1 _ _ _ _ _ _ h2 h0 (ha.snoc (ih.1 _ _ _ _ h1 ((takeS_le _ _ _).code (((st_le hB n).2.1 _ _ _ _ _ _ h2).code h0))))
    · cases h;exact ha
  · intro o lv s l s' h h0
    rw[blockP]at h
    split at h
    · cases h;simp only[WFss]
    · split at h
      · cases h;simp only[WFss]
      · exact ih.2.1 _ _ _ _ _ _ h h0 (by simp only[WFss])
end Go.Vm.Parse
namespace Go.Vm.Parse
open Go Go.Proofs
mutual
def szX:Ex→Nat
 | .mk _ _ _ _ _ sub=>1+szXs sub
def szXs:List Ex→Nat
 | []=>0
 | e :: es=>szX e+szXs es
end
def szB (b:Bra):Nat:=1+szXs b.args+b.claims.length
def szBs:List Bra→Nat
 | []=>0
 | b :: l=>szB b+szBs l
mutual
def szS:Stm→Nat
 | .mk _ _ _ e body els br items=>1+szXs e+szSs body+szSs els+szBs br+items.length
def szSs:List Stm→Nat
 | []=>0
 | s :: l=>szS s+szSs l
end
theorem szXs_snoc (e:Ex):∀ l:List Ex,szXs (l++[e])=szXs l+szX e
 | []=>by simp[szXs]
 | a :: l=>by simp only[List.cons_append,szXs,szXs_snoc e l];omega
theorem szBs_snoc (e:Bra):∀ l:List Bra,szBs (l++[e])=szBs l+szB e
 | []=>by simp[szBs]
 | a :: l=>by simp only[List.cons_append,szBs,szBs_snoc e l];omega
theorem szSs_snoc (e:Stm):∀ l:List Stm,szSs (l++[e])=szSs l+szS e
 | []=>by simp[szSs]
 | a :: l=>by simp only[List.cons_append,szSs,szSs_snoc e l];omega
theorem szX_pos (e:Ex):1≤szX e:=by cases e;simp only[szX];omega
theorem szS_pos (e:Stm):1≤szS e:=by cases e;simp only[szS];omega
theorem szXs_len:∀ l:List Ex,l.length≤szXs l
 | []=>Nat.le_refl _
 | a :: l=>by have:=szXs_len l;have:=szX_pos a;simp only[List.length_cons,szXs];omega
theorem szSs_len:∀ l:List Stm,l.length≤szSs l
 | []=>Nat.le_refl _
 | a :: l=>by have:=szSs_len l;have:=szS_pos a;simp only[List.length_cons,szSs];omega
structure Ate (L:List Tk)(s s':PS)(k:Nat):Prop where
 place:s'.p≤max s.p L.length
 code:s'.c=0→s.c=0
 size:s'.c=0→k+s.p≤s'.p
variable {L:List Tk}
theorem Ate.refl (s:PS):Ate L s s 0:=⟨by omega,fun h=>h,fun _=>by omega⟩
theorem Ate.trans {a b c:PS}{j k:Nat}(h:Ate L a b j)(h':Ate L b c k):Ate L a c (j+k) :=
 ⟨by have:=h.place;have:=h'.place;omega,fun e=>h.code (h'.code e),fun e=>by have:=h'.size e;have:=h.size (h'.code e);omega⟩
theorem Ate.weak {s s':PS}{j k:Nat}(h:Ate L s s' k)(hj:j≤k):Ate L s s' j:=⟨h.place,h.code,fun e=>by have:=h.size e;omega⟩
theorem Ate.bad {s s':PS}(k:Nat)(h:s'.c≠0)(hp:s'.p≤max s.p L.length):Ate L s s' k:=⟨hp,fun e=>absurd e h,fun e=>absurd e h⟩
theorem ate_on {s:PS}(h:s.p<L.length):Ate L s s.on 1:=⟨by show s.p+1≤_;omega,fun e=>e,fun _=>by show 1+s.p≤s.p+1;omega⟩
theorem ate_fault (s:PS){c:Int}(hc:c≠0)(k:Nat):Ate L s (faultS L s c) k:=Ate.bad k (faultS_le L s hc).2 (by unfold faultS;split<;>(first | omega | (dsimp only;omega)))
theorem ate_must (s:PS)(x:ByteArray):Ate L s (mustS L s x) 1:=by
 unfold mustS
 split
 · rename_i h;exact ate_on (isP_lt h)
 · exact ate_fault s (by omega) 1
theorem ate_take (s:PS)(x:ByteArray):Ate L s (takeS L s x) 0:=by
 unfold takeS
 split
 · rename_i h;exact (ate_on (isP_lt h)).weak (by omega)
 · exact Ate.refl s
theorem ate_opens (s:PS)(lv:Int):Ate L s (opensS L s lv) 0:=by
 unfold opensS
 split
 · exact ate_fault s (by omega) 0
 · exact Ate.refl s
theorem ate_name (s:PS):Ate L s (nameS L s) 1:=by
 unfold nameS
 split
 · rename_i h;exact ate_on (tok_ge_kind (by omega))
 · exact ate_fault s (by omega) 1
theorem ate_num (s:PS):Ate L s (numS L s) 1:=by
 unfold numS
 split
 · rename_i h;exact ate_on (tok_ge_kind (by omega))
 · exact ate_fault s (by omega) 1
theorem opens_place (s:PS)(lv:Int):(opensS L s lv).p=s.p:=by
 unfold opensS
 split
 · unfold faultS;split<;>rfl
 · rfl
def XC.sz:XC→Nat
 | .loop _ _ x=>szX x
 | _=>0
theorem x_ate:∀ n cmd s e s',xP L n cmd s=some (e,s')→s'.p≤max s.p L.length∧(s'.c=0→szX e+s.p≤cmd.sz+s'.p):=by
 intro n
 induction n with
 | zero=>intro cmd s e s' h;cases h
 | succ n ih =>
  intro cmd s e s' h
  have l0:∀ {a b c d y},szX (.mk a b c d y [])=1:=by simp[szX,szXs]
  have l1:∀ {a b c d y} {x:Ex},szX (.mk a b c d y [x])=1+szX x:=by intros;simp[szX,szXs]
  have l2:∀ {a b c d y} {x x2:Ex},szX (.mk a b c d y [x,x2])=1+szX x+szX x2:=by intros;simp[szX,szXs];omega
  have on:∀ {x:PS},x.on.p=x.p+1:=fun {x}=>rfl
  have tp:(tok L s.p).kind≠5→s.p<L.length:=tok_ge_kind
  cases cmd with
  | row k lv =>
   simp only[XC.sz]
   rw[xP]at h
   split at h
   · rename_i hc;cases h;exact⟨by omega,fun h=>absurd h hc⟩
   · split at h
     · exact ih _ _ _ _ h
     · split at h
       · split at h
         · exact ih _ _ _ _ h
         · rename_i hb
           have hs:=isP_lt (L:=L) (s:=s) (x:=tNot) (by simpa using hb)
           split at h
           · rename_i ho;cases h;exact⟨by rw[opens_place];omega,fun h=>absurd h ho⟩
           · simp only[Option.map_eq_some_iff]at h
             obtain⟨⟨e1,s1⟩,h1,h2⟩:=h
             cases h2
             have:=ih _ _ _ _ h1
             simp only[XC.sz,on,opens_place,l1]at this ⊢
             exact⟨by omega,fun h=>by have:=this.2 h;omega⟩
       · simp only[Option.bind_eq_some_iff]at h
         obtain⟨⟨e1,s1⟩,h1,h2⟩:=h
         have a:=ih _ _ _ _ h1
         have b:=ih _ _ _ _ h2
         have c:=(x_le L _ _ _ _ _ h2).1.code
         simp only[XC.sz]at a b
         exact⟨by omega,fun h=>by have:=b.2 h;have:=a.2 (c h);omega⟩
  | loop k lv x =>
   simp only[XC.sz]
   rw[xP]at h
   split at h
   · cases h;exact⟨by omega,fun _=>Nat.le_refl _⟩
   · rename_i hop
     have hs:s.p<L.length:=tp (fun h5=>hop (by unfold opP;rw[if_neg (by omega)]))
     simp only[Option.bind_eq_some_iff]at h
     obtain⟨⟨e1,s1⟩,h1,h2⟩:=h
     have a:=ih _ _ _ _ h1
     simp only[XC.sz,on]at a
     split at h2
     · cases h2;simp only[l2];exact⟨by omega,fun h=>by have:=a.2 h;omega⟩
     · have b:=ih _ _ _ _ h2
       have c:=(x_le L _ _ _ _ _ h2).1.code
       simp only[XC.sz,l2]at b
       exact⟨by omega,fun h=>by have:=b.2 h;have:=a.2 (c h);omega⟩
  | fact lv =>
   simp only[XC.sz]
   rw[xP]at h
   split at h
   · rename_i hb
     have hs:=isP_lt hb
     split at h
     · rename_i ho;cases h;exact⟨by rw[opens_place];omega,fun h=>absurd h ho⟩
     · simp only[Option.map_eq_some_iff]at h
       obtain⟨⟨e1,s1⟩,h1,h2⟩:=h
       cases h2
       have:=ih _ _ _ _ h1
       simp only[XC.sz,on,opens_place,l1]at this ⊢
       exact⟨by omega,fun h=>by have:=this.2 h;omega⟩
   · split at h
     · rename_i hk
       have hs:=tp (by omega)
       cases h;simp only[l0,on];exact⟨by omega,fun _=>by omega⟩
     · split at h
       · rename_i hb
         have hs:=isP_lt hb
         cases h;simp only[l0,on];exact⟨by omega,fun _=>by omega⟩
       · split at h
         · rename_i hb
           have hs:=isP_lt hb
           cases h;simp only[l0,on];exact⟨by omega,fun _=>by omega⟩
         · split at h
           · rename_i hb
             have hs:=isP_lt hb
             split at h
             · rename_i ho;cases h;exact⟨by rw[opens_place];omega,fun h=>absurd h ho⟩
             · simp only[Option.map_eq_some_iff]at h
               obtain⟨⟨e1,s1⟩,h1,h2⟩:=h
               cases h2
               have a:=ih _ _ _ _ h1
               have b:=ate_must (L:=L) s1 (b1 41)
               have b1:=b.place
               simp only[XC.sz,on,opens_place]at a ⊢
               exact⟨by omega,fun h=>by have:=a.2 (b.code h);have:=b.size h;omega⟩
           · split at h
             · rename_i hk
               have hs:=tp (by omega)
               split at h
               · cases h;simp only[l0,on];exact⟨by omega,fun _=>by omega⟩
               · simp only[Option.map_eq_some_iff]at h
                 obtain⟨⟨e1,s1⟩,h1,h2⟩:=h
                 cases h2
                 have a:=ih _ _ _ _ h1
                 simp only[XC.sz,on,l1]at a ⊢
                 exact⟨by omega,fun h=>by have:=a.2 h;omega⟩
             · cases h
               have b:=ate_fault (L:=L) s (c:=14) (by omega) (szX .zero)
               exact⟨b.place,fun h=>by have:=b.size h;omega⟩
  | index lv =>
   simp only[XC.sz]
   rw[xP]at h
   split at h
   · cases h
     have b:=ate_fault (L:=L) s (c:=14) (by omega) (szX .zero)
     exact⟨b.place,fun h=>by have:=b.size h;omega⟩
   · rename_i hb
     have hs:=isP_lt (L:=L) (s:=s) (x:=b1 91) (by simpa using hb)
     split at h
     · cases h
       have b:=ate_fault (L:=L) (opensS L s (lv+1)) (c:=14) (by omega) (szX .zero)
       have b1:=b.place
       rw[opens_place]at b1
       exact⟨b1,fun h=>absurd h (faultS_le L _ (by omega)).2⟩
     · simp only[Option.map_eq_some_iff]at h
       obtain⟨⟨e1,s1⟩,h1,h2⟩:=h
       cases h2
       have a:=ih _ _ _ _ h1
       have b:=ate_must (L:=L) s1 (b1 93)
       have b1:=b.place
       simp only[XC.sz,on,opens_place]at a ⊢
       exact⟨by omega,fun h=>by have:=a.2 (b.code h);have:=b.size h;omega⟩
theorem ate_x {n:Nat}{cmd:XC}{s s':PS}{e:Ex}(h:xP L n cmd s=some (e,s'))(hc:cmd.sz=0:=by rfl):Ate L s s' (szX e) :=
 ⟨(x_ate _ _ _ _ _ h).1,(x_le L _ _ _ _ _ h).1.code,fun h0=>by have:=(x_ate _ _ _ _ _ h).2 h0;omega⟩
structure Ate2 (L:List Tk)(s s':PS)(j k:Nat):Prop where
 place:s'.p≤max s.p L.length
 code:s'.c=0→s.c=0
 size:s'.c=0→k+s.p≤j+s'.p
theorem Ate2.refl (s:PS)(k:Nat):Ate2 L s s k k:=⟨by omega,fun h=>h,fun _=>by omega⟩
theorem Ate.then2 {a b c:PS}{i j k:Nat}(h:Ate L a b i)(h':Ate2 L b c (j+i) k):Ate2 L a c j k :=
 ⟨by have:=h.place;have:=h'.place;omega,fun e=>h.code (h'.code e),fun e=>by have:=h'.size e;have:=h.size (h'.code e);omega⟩
theorem Ate2.one {a b:PS}{k:Nat}(h:Ate2 L a b 0 k):Ate L a b k:=⟨h.place,h.code,fun e=>by have:=h.size e;omega⟩
theorem ate_items:∀ {n:Nat}{acc:List Itm}{again:Bool}{s s':PS}{l:List Itm},itemsL L n acc again s=some (l,s')→Ate2 L s s' acc.length l.length
 | 0,_,_,_,_,_,h=>by cases h
 | n + 1, acc, again, s, s', l, h => by
  rw[itemsL]at h
  split at h
  · have a:=ate_items h
    simp only[List.length_append,List.length_cons,List.length_nil]at a
    exact ((((ate_name s).trans (ate_num _)).trans (ate_take _ _)).weak (by omega)).then2 a
  · cases h;exact Ate2.refl _ _
theorem ate_args {lv:Int}:∀ {n:Nat}{acc:List Ex}{again:Bool}{s s':PS}{l:List Ex},argsL L lv n acc again s=some (l,s')→Ate2 L s s' (szXs acc) (szXs l)
 | 0,_,_,_,_,_,h=>by cases h
 | n + 1, acc, again, s, s', l, h => by
  rw[argsL]at h
  split at h
  · simp only[Option.bind_eq_some_iff]at h
    obtain⟨⟨x,s1⟩,h1,h2⟩:=h
    have a:=ate_args h2
    rw[szXs_snoc]at a
    exact (((ate_x h1).trans (ate_take _ _)).weak (by dsimp only;omega)).then2 a
  · cases h;exact Ate2.refl _ _
theorem isP_must {s:PS}{x:ByteArray}(h:isP L s x=true):Ate L s s.on 1:=ate_on (isP_lt h)
theorem ate_argsP {n:Nat}{lv:Int}{s s':PS}{l:List Ex}(h:argsP L n lv s=some (l,s')):Ate L s s' (szXs l):=by
 unfold argsP at h
 split at h
 · rename_i hb
   cases h
   exact ((ate_must s (b1 40)).trans (isP_must hb)).weak (by simp[szXs])
 · simp only[Option.map_eq_some_iff]at h
   obtain⟨⟨x,s1⟩,h1,h2⟩:=h
   cases h2
   have a:=(ate_args h1).one
   exact (((ate_must s (b1 40)).trans a).trans (ate_must _ _)).weak (by dsimp only;omega)
theorem ate_branP {n:Nat}{lv:Int}{s s':PS}{b:Bra}(h:branP L n lv s=some (b,s')):Ate L s s' (szB b):=by
 unfold branP at h
 simp only[Option.bind_eq_some_iff]at h
 obtain⟨⟨a,s1⟩,h1,h2⟩:=h
 split at h2
 · rename_i hb
   simp only[Option.map_eq_some_iff]at h2
   obtain⟨⟨x,s2⟩,h3,h4⟩:=h2
   cases h4
   exact ((((ate_name s).trans (ate_argsP h1)).trans (isP_must hb)).trans (ate_items h3).one).weak (by simp only[szB];omega)
 · cases h2
   exact ((ate_name s).trans (ate_argsP h1)).weak (by simp only[szB,List.length_nil];omega)
theorem ate_branL {lv:Int}:∀ {n:Nat}{acc:List Bra}{again:Bool}{s s':PS}{l:List Bra},branL branP L lv n acc again s=some (l,s')→Ate2 L s s' (szBs acc) (szBs l)
 | 0,_,_,_,_,_,h=>by cases h
 | n + 1, acc, again, s, s', l, h => by
  rw[branL]at h
  split at h
  · simp only[Option.bind_eq_some_iff]at h
    obtain⟨⟨x,s1⟩,h1,h2⟩:=h
    have a:=ate_branL h2
    rw[szBs_snoc]at a
    exact (((ate_branP h1).trans (ate_take _ _)).weak (by dsimp only;omega)).then2 a
  · cases h;exact Ate2.refl _ _
theorem ate_named {n:Nat}{lv:Int}{s s':PS}{x:Stm}(h:namedP L n lv s=some (x,s')):Ate L s s' (szS x):=by
 unfold namedP at h
 split at h
 · simp only[Option.map_eq_some_iff]at h
   obtain⟨⟨x,s1⟩,h1,h2⟩:=h
   cases h2
   exact ((ate_name s).trans (ate_argsP h1)).weak (by simp[szS,szSs,szBs])
 · split at h
   · simp only[Option.bind_eq_some_iff,Option.map_eq_some_iff]at h
     obtain⟨⟨i,s1⟩,h1,⟨x,s2⟩,h2,h3⟩:=h
     cases h3
     exact ((((ate_name s).trans (ate_x h1)).trans (ate_must _ _)).trans (ate_x h2)).weak (by simp[szS,szSs,szBs,szXs]<;>omega)
   · simp only[Option.map_eq_some_iff]at h
     obtain⟨⟨x,s2⟩,h2,h3⟩:=h
     cases h3
     exact (((ate_name s).trans (ate_must _ _)).trans (ate_x h2)).weak (by simp[szS,szSs,szBs,szXs]<;>omega)
theorem ate_st:∀ n,(∀ lv s x s',stmtP branP L n lv s=some (x,s')→Ate L s s' (szS x))∧(∀ lv acc again s l s',stmtsL branP L n lv acc again s=some (l,s')→Ate2 L s s' (szSs acc) (szSs l))∧(∀ o lv s l s',blockP branP L n o lv s=some (l,s')→Ate L s s' (szSs l)):=by
 intro n
 induction n with
 | zero=>exact⟨fun _ _ _ _ h=>(by rw[stmtP]at h;cases h),fun _ _ _ _ _ _ h=>(by rw[stmtsL]at h;cases h),fun _ _ _ _ _ h=>(by rw[blockP]at h;cases h)⟩
 | succ n ih =>
  refine⟨?_,?_,?_⟩
  · intro lv s x s' h
    have on:∀ {x:ByteArray},isP L s x=true→Ate L s s.on 1:=fun h=>isP_must h
    rw[stmtP]at h
    by_cases c1:(tok L s.p).kind=1
    · rw[if_pos c1]at h;exact ate_named h
    rw[if_neg c1]at h
    by_cases c2:isP L s tSkip=true
    · rw[if_pos c2]at h;cases h;exact (on c2).weak (by simp[szS,szSs,szBs,szXs])
    rw[if_neg c2]at h
    by_cases c3:isP L s tIf=true
    · rw[if_pos c3]at h
      simp only[Option.bind_eq_some_iff]at h
      obtain⟨⟨x1,s1⟩,h1,⟨b1,s2⟩,h2,h3⟩:=h
      have k:=((on c3).trans (ate_x h1)).trans (ih.2.2 _ _ _ _ _ h2)
      split at h3
      · simp only[Option.map_eq_some_iff]at h3
        obtain⟨⟨c1,s3⟩,h3,h4⟩:=h3
        cases h4
        exact ((k.trans (ih.2.2 _ _ _ _ _ h3)).trans (ate_must _ _)).weak (by simp[szS,szSs,szBs,szXs]<;>omega)
      · cases h3;exact (k.trans (ate_must _ _)).weak (by simp[szS,szSs,szBs,szXs]<;>omega)
    rw[if_neg c3]at h
    by_cases c4:isP L s tWhile=true
    · rw[if_pos c4]at h
      simp only[Option.bind_eq_some_iff,Option.map_eq_some_iff]at h
      obtain⟨⟨x1,s1⟩,h1,⟨b1,s2⟩,h2,h3⟩:=h
      cases h3
      exact ((((on c4).trans (ate_x h1)).trans (ih.2.2 _ _ _ _ _ h2)).trans (ate_must _ _)).weak (by simp[szS,szSs,szBs,szXs]<;>omega)
    rw[if_neg c4]at h
    by_cases c5:isP L s tCobegin=true
    · rw[if_pos c5]at h
      simp only[Option.map_eq_some_iff]at h
      obtain⟨⟨b1,s2⟩,h2,h3⟩:=h
      cases h3
      exact (((on c5).trans (ate_branL h2).one).trans (ate_must _ _)).weak (by simp[szS,szSs,szXs,szBs]<;>omega)
    rw[if_neg c5]at h
    by_cases c6:isP L s (b1 80)=true∨isP L s (b1 86)=true
    · rw[if_pos c6]at h
      cases h
      have o1:Ate L s s.on 1:=by rcases c6 with h | h<;>exact on h
      exact ((((o1.trans (ate_must _ _)).trans (ate_name _)).trans (ate_must _ _))).weak (by simp[szS,szSs,szBs,szXs])
    rw[if_neg c6]at h
    by_cases c7:isP L s tRegion=true
    · rw[if_pos c7]at h
      have k:=(on c7).trans (ate_name s.on)
      split at h
      · rename_i hb
        simp only[Option.bind_eq_some_iff,Option.map_eq_some_iff]at h
        obtain⟨⟨x1,s1⟩,h1,⟨b1,s2⟩,h2,h3⟩:=h
        cases h3
        exact ((((k.trans (isP_must hb)).trans (ate_x h1)).trans (ih.2.2 _ _ _ _ _ h2)).trans (ate_must _ _)).weak (by simp[szS,szSs,szBs,szXs]<;>omega)
      · simp only[Option.map_eq_some_iff]at h
        obtain⟨⟨b1,s2⟩,h2,h3⟩:=h
        cases h3
        exact ((k.trans (ih.2.2 _ _ _ _ _ h2)).trans (ate_must _ _)).weak (by simp[szS,szSs,szBs,szXs]<;>omega)
    rw[if_neg c7]at h
    by_cases c8:isP L s tRequest=true
    · rw[if_pos c8]at h
      simp only[Option.map_eq_some_iff]at h
      obtain⟨⟨b1,s2⟩,h2,h3⟩:=h
      cases h3
      exact ((on c8).trans (ate_items h2).one).weak (by simp[szS,szSs,szBs,szXs])
    rw[if_neg c8]at h
    by_cases c9:isP L s tRelease=true
    · rw[if_pos c9]at h
      simp only[Option.map_eq_some_iff]at h
      obtain⟨⟨b1,s2⟩,h2,h3⟩:=h
      cases h3
      exact ((on c9).trans (ate_items h2).one).weak (by simp[szS,szSs,szBs,szXs])
    rw[if_neg c9]at h
    by_cases c10:isP L s tRead=true
    · rw[if_pos c10]at h
      have k:=(on c10).trans (ate_name s.on)
      split at h
      · simp only[Option.map_eq_some_iff]at h
        obtain⟨⟨b1,s2⟩,h2,h3⟩:=h
        cases h3
        exact (k.trans (ate_x h2)).weak (by simp[szS,szSs,szBs,szXs]<;>omega)
      · cases h;exact k.weak (by simp[szS,szSs,szBs,szXs])
    rw[if_neg c10]at h
    by_cases c11:isP L s tWrite=true
    · rw[if_pos c11]at h
      simp only[Option.map_eq_some_iff]at h
      obtain⟨⟨b1,s2⟩,h2,h3⟩:=h
      cases h3
      exact ((on c11).trans (ate_x h2)).weak (by simp[szS,szSs,szBs,szXs])
    rw[if_neg c11]at h
    cases h;exact ate_fault s (by omega) _
  · intro lv acc again s l s' h
    rw[stmtsL]at h
    split at h
    · simp only[Option.bind_eq_some_iff]at h
      obtain⟨⟨x,s1⟩,h1,h2⟩:=h
      have a:=ih.2.1 _ _ _ _ _ _ h2
      rw[szSs_snoc]at a
      exact (((ih.1 _ _ _ _ h1).trans (ate_take _ _)).weak (by dsimp only;omega)).then2 a
    · cases h;exact Ate2.refl _ _
  · intro o lv s l s' h
    rw[blockP]at h
    split at h
    · cases h;exact ate_fault s (by omega) _
    · rename_i hb
      split at h
      · rename_i ho
        cases h;exact Ate.bad _ ho (by rw[opens_place];omega)
      · have hs:=isP_lt (L:=L) (s:=s) (x:=o) (by simpa using hb)
        have a:Ate L (opensS L s (lv+1)) (opensS L s (lv+1)).on 1:=ate_on (by rw[opens_place];exact hs)
        exact (((ate_opens s (lv+1)).trans a).trans (ih.2.1 _ _ _ _ _ _ h).one).weak (by omega)
structure DclOK (d:Dcl):Prop where
 k1:1≤d.kind
 k4:d.kind≤4
 n0:0≤d.n
 n1:d.n≤most
 n2:3≤d.kind→d.n≤64
def szP (p:Prc):Nat:=1+p.params.length+p.vars.length+szSs p.body
def szPs:List Prc→Nat
 | []=>0
 | p :: l=>szP p+szPs l
theorem szPs_snoc (e:Prc):∀ l:List Prc,szPs (l++[e])=szPs l+szP e
 | []=>by simp[szPs]
 | a :: l=>by simp only[List.cons_append,szPs,szPs_snoc e l];omega
theorem szPs_len:∀ l:List Prc,l.length≤szPs l
 | []=>Nat.le_refl _
 | a :: l=>by have:=szPs_len l;simp only[List.length_cons,szPs,szP];omega
theorem szPs_mem:∀ {l:List Prc}{p:Prc},p∈l→szP p≤szPs l
 | a :: l, p, h => by
  simp only[szPs]
  rcases List.mem_cons.1 h with rfl | h
  · omega
  · have:=szPs_mem h;omega
structure SrcOK (S:Src)(n:Nat):Prop where
 decls:∀ d∈S.decls,DclOK d
 procs:∀ p∈S.procs,WFss p.body
 claims:∀ i∈S.claims,ItmOK i
 body:WFss S.body
 size:S.decls.length+szPs S.procs+S.claims.length+szSs S.body≤n
theorem ate_size (s:PS):Ate L s (sizeP L s).2 0:=by
 unfold sizeP
 split
 · exact Ate.refl s
 · rename_i hb
   have hs:=isP_lt (L:=L) (s:=s) (x:=b1 91) (by simpa using hb)
   have u:∀ (s:PS) q,Ate L s (unitS L s q) 0:=fun s q=>by
    unfold unitS
    split
    · exact Ate.bad 0 (by simp) (by simp only[];omega)
    · exact Ate.refl s
   exact ((((ate_on hs).trans (ate_num s.on)).trans (u _ _)).trans (ate_must _ _)).weak (by omega)
theorem unitsP_ok (hN:NumsOK L)(k:Int)(s:PS):0≤(unitsP L k s).1∧(unitsP L k s).1≤most∧((unitsP L k s).2.c=0→3≤k→(unitsP L k s).1≤64):=by
 unfold unitsP
 split
 · exact⟨(numP_ok hN s).1,(numP_ok hN s).2,fun _ h=>by omega⟩
 · unfold sizeP
   split
   · exact⟨Int.le_refl 0,by show (0:Int)≤most;decide,fun _ _=>by simp⟩
   · refine⟨(numP_ok hN _).1,(numP_ok hN _).2,fun h0 _ => ?_⟩
     have h1:=(mustS_le _ _ _).code h0
     unfold unitS at h1
     split at h1
     · cases h1
     · rename_i hc
       have:¬((numP L s.on).1<1∨64<(numP L s.on).1):=fun h=>hc ⟨h1,h⟩
       dsimp only
       omega
theorem decls_ok (hN:NumsOK L):∀ {n:Nat}{acc:List Dcl}{s s':PS}{l:List Dcl},declsL L n acc s=some (l,s')→s'.c=0→(∀ d∈acc,DclOK d)→(∀ d∈l,DclOK d)
 | 0,_,_,_,_,h,_,_=>by cases h
 | n + 1, acc, s, s', l, h, h0, ha => by
  rw[declsL]at h
  split at h
  · split at h
    · cases h;exact ha
    · rename_i hk
      refine decls_ok hN h h0 (all_snoc ha ?_)
      have h1:=(declsL_le h).code h0
      have h2:=(mustS_le _ _ _).code h1
      have u:=unitsP_ok hN (kindP L s) (nameS L s.on)
      have kb:1≤kindP L s∧kindP L s≤4:=by
       unfold kindP at hk ⊢
       repeat' split
       all_goals first | omega | simp_all
      exact⟨kb.1,kb.2,u.1,u.2.1,fun hk=>u.2.2 h2 hk⟩
  · cases h;exact ha
theorem ate_decls:∀ {n:Nat}{acc:List Dcl}{s s':PS}{l:List Dcl},declsL L n acc s=some (l,s')→Ate2 L s s' acc.length l.length
 | 0,_,_,_,_,h=>by cases h
 | n + 1, acc, s, s', l, h => by
  rw[declsL]at h
  split at h
  · split at h
    · cases h;exact Ate2.refl _ _
    · rename_i hk
      have a:=ate_decls h
      simp only[List.length_append,List.length_cons,List.length_nil]at a
      have u:∀ s,Ate L s (unitsP L (kindP L s) s).2 0:=fun s=>by
       unfold unitsP
       split
       · exact (ate_num s).weak (by omega)
       · exact ate_size s
      have u2:∀ k s,Ate L s (unitsP L k s).2 0:=fun k s=>by
       unfold unitsP
       split
       · exact (ate_num s).weak (by omega)
       · exact ate_size s
      exact (((((ate_on (kindP_lt hk)).trans (ate_name s.on)).trans (u2 (kindP L s) _)).trans (ate_must _ _)).weak (by omega)).then2 a
  · cases h;exact Ate2.refl _ _
theorem ate_idents:∀ {n:Nat}{acc:List Idn}{again:Bool}{s s':PS}{l:List Idn},identsL L n acc again s=some (l,s')→Ate2 L s s' acc.length l.length
 | 0,_,_,_,_,_,h=>by cases h
 | n + 1, acc, again, s, s', l, h => by
  rw[identsL]at h
  split at h
  · have a:=ate_idents h
    simp only[List.length_append,List.length_cons,List.length_nil]at a
    exact (((ate_name s).trans (ate_take _ _)).weak (by omega)).then2 a
  · cases h;exact Ate2.refl _ _
theorem ate_vars:∀ {n:Nat}{acc:List Idn}{s s':PS}{l:List Idn},varsL L n acc s=some (l,s')→Ate2 L s s' acc.length l.length
 | 0,_,_,_,_,h=>by cases h
 | n + 1, acc, s, s', l, h => by
  rw[varsL]at h
  split at h
  · rename_i hb
    have a:=ate_vars h
    simp only[List.length_append,List.length_cons,List.length_nil]at a
    exact ((((isP_must hb).trans (ate_name s.on)).trans (ate_must _ _)).weak (by omega)).then2 a
  · cases h;exact Ate2.refl _ _
theorem proc_ok (hN:NumsOK L){n:Nat}{s s':PS}{p:Prc}(h:procP branP L n s=some (p,s')):Ate L s s' (szP p)∧(s'.c=0→WFss p.body):=by
 unfold procP at h
 simp only[Option.bind_eq_some_iff,Option.map_eq_some_iff]at h
 obtain⟨⟨a,s1⟩,h1,⟨b,s2⟩,h2,⟨c,s3⟩,h3,h4⟩:=h
 cases h4
 have ka:Ate L (mustS L (nameS L s) (b1 40)) s1 a.length:=by
  unfold paramsP at h1
  split at h1
  · cases h1;exact Ate.refl _
  · exact (ate_idents h1).one
 have kc:=((ate_st n).2.1 _ _ _ _ _ _ h3).one
 have tl:=(ate_must (L:=L) s3 tEnd).trans (ate_must _ tSemi)
 refine⟨(((((((((ate_name s).trans (ate_must _ _)).trans ka).trans (ate_must _ _)).trans (ate_must _ _)).trans (ate_vars h2).one).trans (ate_must _ _)).trans kc).trans tl).weak (by simp only[szP];omega),fun h0=>(st_wf hN n).2.1 _ _ _ _ _ _ h3 (tl.code h0) (by simp only[WFss])⟩
theorem procs_ok (hN:NumsOK L):∀ {n:Nat}{acc:List Prc}{s s':PS}{l:List Prc},procsL branP L n acc s=some (l,s')→Ate2 L s s' (szPs acc) (szPs l)∧(s'.c=0→(∀ p∈acc,WFss p.body)→∀ p∈l,WFss p.body)
 | 0,_,_,_,_,h=>by cases h
 | n + 1, acc, s, s', l, h => by
  rw[procsL]at h
  split at h
  · rename_i hb
    simp only[Option.bind_eq_some_iff]at h
    obtain⟨⟨p,s1⟩,h1,h2⟩:=h
    have a:=procs_ok hN h2
    have b:=proc_ok hN h1
    rw[szPs_snoc]at a
    exact⟨(((isP_must hb).trans b.1).weak (by dsimp only;omega)).then2 a.1,fun h0 ha=>a.2 h0 (all_snoc ha (b.2 (a.1.code h0)))⟩
  · cases h;exact⟨Ate2.refl _ _,fun _ h=>h⟩
theorem src_ok (hN:NumsOK L){n:Nat}{S:Src}(h:srcP branP L n=some (.inl S)):SrcOK S L.length:=by
 simp only[srcP,Option.bind_eq_some_iff,Option.map_eq_some_iff]at h
 obtain⟨⟨ds,s1⟩,hx1,⟨ps,s2⟩,hx2,⟨cl,s3⟩,hx3,⟨bd,s4⟩,hx4,hx5⟩:=h
 split at hx5
 · rename_i h0
   cases hx5
   have ke:Ate L (mustS L (mustS L s4 tEnd) (b1 46)) (endS L (mustS L (mustS L s4 tEnd) (b1 46))) 0:=by
    unfold endS
    split
    · exact Ate.refl _
    · exact ate_fault _ (by omega) 0
   have k4:=((ate_must (L:=L) s4 tEnd).trans (ate_must _ (b1 46))).trans ke
   have c4:s4.c=0:=k4.code h0
   have kb:=((ate_st (L:=L) n).2.1 _ _ _ _ _ _ hx4).one
   have kc:Ate L s2 s3 cl.length∧(∀ i∈cl,ItmOK i):=by
    unfold claimsP at hx3
    split at hx3
    · rename_i hb
      simp only[Option.map_eq_some_iff]at hx3
      obtain⟨⟨q,s5⟩,h1,h2⟩:=hx3
      cases h2
      exact⟨(((isP_must hb).trans (ate_items h1).one).trans (ate_must _ _)).weak (by dsimp only;omega),itemsL_wf hN h1 nil_all⟩
    · cases hx3;exact⟨Ate.refl _,nil_all⟩
   have kp:=procs_ok hN hx2
   have kd:=ate_decls hx1
   have c3:=kb.code c4
   have c3':=(ate_must (L:=L) s3 tBegin).code c3
   have c2:=kc.1.code c3'
   have c1:=kp.1.code c2
   have all:=((((((((ate_must (L:=L) ⟨0,0,0⟩ tProgram).trans (ate_name _)).trans (ate_must _ tSemi)).trans kd.one).trans kp.1.one).trans kc.1).trans (ate_must _ tBegin)).trans kb).trans k4
   have e1:=all.size h0
   have e2:=all.place
   simp only[Nat.add_zero]at e1 e2
   exact⟨decls_ok hN hx1 c1 nil_all,kp.2 c2 nil_all,kc.2,(st_wf hN n).2.1 _ _ _ _ _ _ hx4 c4 (by simp only[WFss]),by dsimp only;omega⟩
 · cases hx5
theorem parse_ok {src:List UInt8}{n:Nat}{S:Src}(h:parseP branP src n=some (.inl S)):SrcOK S (src.length+1):=by
 unfold parseP at h
 simp only[Option.bind_eq_some_iff]at h
 obtain⟨q,hlex,hx⟩:=h
 cases q with
 | inr f=>simp at hx
 | inl L =>
  have l:=lexFrom_len hlex
  simp at l
  have k:=src_ok (lexFrom_nums nil_all hlex) hx
  exact⟨k.decls,k.procs,k.claims,k.body,by have:=k.size;omega⟩
end Go.Vm.Parse
namespace Go.Vm.Tree
open Go Go.Proofs Go.Vm.Parse
variable {α:Type}
def sum (f:α→Nat):List α→Nat
 | []=>0
 | a :: l=>f a+sum f l
mutual
def cntE:Ex→Nat
 | .mk _ _ _ _ _ s=>1+cntEs s
def cntEs:List Ex→Nat
 | []=>0
 | e :: l=>cntE e+cntEs l
end
def cntB (b:Bra):Nat:=sum cntE b.args
mutual
def cntS:Stm→Nat
 | .mk _ _ _ e b l br _=>1+(sum cntE e+(cntSs b+(cntSs l+sum cntB br)))
def cntSs:List Stm→Nat
 | []=>0
 | e :: l=>cntS e+cntSs l
end
def cntP (p:Prc):Nat:=sum cntS p.body
def GT (ρ:Rep α)(H:Heap)(v:Value)(l:List α):Prop :=
 (v = .slice none 0 0∧l=[])∨∃ id tl cs,v = .slice (some ⟨id,0,none⟩) l.length l.length∧H.get id = .row true tl ρ.k cs∧ρ.L H (fun _=>True) l cs
theorem GT.of (ρ:Rep α){H:Heap}{S:Nat→Prop}{v:Value}{l:List α}(h:ρ.G H S v l):GT ρ H v l:=by
 refine h.imp id ?_
 rintro⟨id,tl,cs,h1,_,_,h4,h5⟩
 exact⟨id,tl,cs,h1,h4,ρ.L_move (Same.refl (fun _=>False) H) (fun i _ _=>⟨trivial,fun h=>h⟩) h5⟩
theorem GT.keep {ρ:Rep α}{H H':Heap}{v:Value}{l:List α}(h:GT ρ H v l)(k:Same (fun _=>False) H H'):GT ρ H' v l:=by
 refine h.imp id ?_
 rintro⟨id,tl,cs,h1,h4,h5⟩
 exact⟨id,tl,cs,h1,k.at h4 (by simp) fun h=>h,ρ.L_move k (fun i _ _=>⟨trivial,fun h=>h⟩) h5⟩
theorem GT.slice {ρ:Rep α}{H:Heap}{v:Value}{l:List α}(h:GT ρ H v l):∃ b,v = .slice b l.length l.length:=by
 rcases h with⟨rfl,rfl⟩ | ⟨id,tl,cs,rfl,_⟩<;>exact⟨_,rfl⟩
theorem L_item (ρ:Rep α){H:Heap}{S:Nat→Prop}:∀ {l:List α}{cs:List Value},ρ.L H S l cs→∀ i (hi:i<l.length),ρ.R H S l[i] ((cs.drop (i * ρ.k)).take ρ.k)
 | [],cs,_,i,hi=>absurd hi (Nat.not_lt_zero _)
 | e :: l, cs, h, i, hi => by
  obtain⟨c1,c2,rfl,h1,h2⟩:=h
  have hl:=ρ.len h1
  cases i with
  | zero =>
   simp only[Nat.zero_mul,List.drop_zero,List.getElem_cons_zero]
   rw[List.take_left' hl];exact h1
  | succ i =>
   have e:(i+1) * ρ.k=c1.length+i * ρ.k:=by rw[Nat.add_mul,hl];omega
   rw[List.getElem_cons_succ,e,List.drop_append,List.drop_eq_nil_of_le (by omega),List.nil_append,show c1.length+i * ρ.k - c1.length=i * ρ.k by omega]
   exact L_item ρ h2 i (by simpa using hi)
theorem GT.at {ρ:Rep α}{H:Heap}{b:Option Addr}{n m:Nat}{l:List α}(h:GT ρ H (.slice b n m) l){i:Nat}(hi:i<l.length) :
  ∃ id tl cs,b=some ⟨id,0,none⟩∧n=l.length∧m=l.length∧H.get id = .row true tl ρ.k cs∧cs.length=l.length * ρ.k∧ρ.R H (fun _=>True) l[i] ((cs.drop (i * ρ.k)).take ρ.k):=by
 rcases h with⟨_,rfl⟩ | ⟨id,tl,cs,e,h4,h5⟩
 · simp at hi
 · cases e
   exact⟨id,tl,cs,rfl,rfl,rfl,h4,ρ.L_len h5,L_item ρ h5 i hi⟩
theorem GT.ofEx {H:Heap}{S:Nat→Prop}{v:Value}{l:List Ex}(h:(v = .slice none 0 0∧l=[])∨∃ id tl cs',v = .slice (some ⟨id,0,none⟩) l.length l.length∧S id∧H.get id = .row true tl 6 cs'∧REs H S l cs'):GT repEx H v l:=by
 refine h.imp id ?_
 rintro⟨id,tl,cs,h1,_,h4,h5⟩
 exact⟨id,tl,cs,h1,h4,repEx.L_move (Same.refl (fun _=>False) H) (fun i _ _=>⟨trivial,fun h=>h⟩) (repEx_L.2 h5)⟩
theorem GT.ofSt {H:Heap}{S:Nat→Prop}{v:Value}{l:List Stm}(h:(v = .slice none 0 0∧l=[])∨∃ id tl cs',v = .slice (some ⟨id,0,none⟩) l.length l.length∧tl≤1∧S id∧H.get id = .row true tl 8 cs'∧RSs H S l cs'):GT repStm H v l:=by
 refine h.imp id ?_
 rintro⟨id,tl,cs,h1,_,_,h4,h5⟩
 exact⟨id,tl,cs,h1,h4,repStm.L_move (Same.refl (fun _=>False) H) (fun i _ _=>⟨trivial,fun h=>h⟩) (repStm_L.2 h5)⟩
abbrev T0:Nat→Prop:=fun _=>True
theorem ex_parts {H:Heap}{S:Nat→Prop}{k a n o:Int}{x:ByteArray}{s:List Ex}{cs:List Value}(h:RE H S (.mk k a n o x s) cs):∃ b,cs=[.int .i64 k,.int .i64 a,.int .i64 n,.int .i64 o,.string x,.slice b s.length s.length]∧GT repEx H (.slice b s.length s.length) s:=by
 simp only[RE]at h
 obtain⟨v,rfl,h⟩:=h
 have g:=GT.ofEx h
 obtain⟨b,rfl⟩:=g.slice
 exact⟨b,rfl,g⟩
theorem st_parts {H:Heap}{S:Nat→Prop}{k a:Int}{x:ByteArray}{e:List Ex}{bd el:List Stm}{br:List Bra}{it:List Itm}{cs:List Value}(h:RS H S (.mk k a x e bd el br it) cs) :
  ∃ b1 b2 b3 b4 b5,cs=[.int .i64 k,.int .i64 a,.string x,.slice b1 e.length e.length,.slice b2 bd.length bd.length,.slice b3 el.length el.length,.slice b4 br.length br.length,.slice b5 it.length it.length] ∧
   GT repEx H (.slice b1 e.length e.length) e∧GT repStm H (.slice b2 bd.length bd.length) bd∧GT repStm H (.slice b3 el.length el.length) el∧GT repBra H (.slice b4 br.length br.length) br∧GT repItm H (.slice b5 it.length it.length) it:=by
 simp only[RS]at h
 obtain⟨v1,v2,v3,v4,v5,rfl,h1,h4,h5,h2,h3⟩:=h
 have g1:=GT.of repEx h1;have g2:=GT.ofSt h2;have g3:=GT.ofSt h3;have g4:=GT.of repBra h4;have g5:=GT.of repItm h5
 obtain⟨b1,rfl⟩:=g1.slice;obtain⟨b2,rfl⟩:=g2.slice;obtain⟨b3,rfl⟩:=g3.slice;obtain⟨b4,rfl⟩:=g4.slice;obtain⟨b5,rfl⟩:=g5.slice
 exact⟨b1,b2,b3,b4,b5,rfl,g1,g2,g3,g4,g5⟩
theorem br_parts {H:Heap}{S:Nat→Prop}{b:Bra}{cs:List Value}(h:repBra.R H S b cs) :
  ∃ b1 b2,cs=[.int .i64 b.at_,.string b.name,.slice b1 b.args.length b.args.length,.slice b2 b.claims.length b.claims.length]∧GT repEx H (.slice b1 b.args.length b.args.length) b.args∧GT repItm H (.slice b2 b.claims.length b.claims.length) b.claims:=by
 obtain⟨v,w,rfl,h1,h2⟩:=h
 have g1:=GT.of repEx h1;have g2:=GT.of repItm h2
 obtain⟨b1,rfl⟩:=g1.slice;obtain⟨b2,rfl⟩:=g2.slice
 exact⟨b1,b2,rfl,g1,g2⟩
theorem pr_parts {H:Heap}{S:Nat→Prop}{p:Prc}{cs:List Value}(h:repPrc.R H S p cs) :
  ∃ b1 b2 b3,cs=pc5 p.at_ p.name (.slice b1 p.params.length p.params.length) (.slice b2 p.vars.length p.vars.length) (.slice b3 p.body.length p.body.length)∧GT repIdn H (.slice b1 p.params.length p.params.length) p.params∧GT repIdn H (.slice b2 p.vars.length p.vars.length) p.vars∧GT repStm H (.slice b3 p.body.length p.body.length) p.body:=by
 obtain⟨v1,v2,v3,rfl,h1,h2,h3⟩:=h
 have g1:=GT.of repIdn h1;have g2:=GT.of repIdn h2;have g3:=GT.of repStm h3
 obtain⟨b1,rfl⟩:=g1.slice;obtain⟨b2,rfl⟩:=g2.slice;obtain⟨b3,rfl⟩:=g3.slice
 exact⟨b1,b2,b3,rfl,g1,g2,g3⟩
theorem sr_parts {H:Heap}{S:Nat→Prop}{s:Src}{cs:List Value}(h:RSrc H S s cs) :
  ∃ b1 b2 b3 b4,cs=sr5 s.name (.slice b1 s.decls.length s.decls.length) (.slice b2 s.procs.length s.procs.length) (.slice b3 s.claims.length s.claims.length) (.slice b4 s.body.length s.body.length) ∧
   GT repDcl H (.slice b1 s.decls.length s.decls.length) s.decls∧GT repPrc H (.slice b2 s.procs.length s.procs.length) s.procs∧GT repItm H (.slice b3 s.claims.length s.claims.length) s.claims∧GT repStm H (.slice b4 s.body.length s.body.length) s.body:=by
 obtain⟨v1,v2,v3,v4,rfl,h1,h2,h3,h4⟩:=h
 have g1:=GT.of repDcl h1;have g2:=GT.of repPrc h2;have g3:=GT.of repItm h3;have g4:=GT.of repStm h4
 obtain⟨b1,rfl⟩:=g1.slice;obtain⟨b2,rfl⟩:=g2.slice;obtain⟨b3,rfl⟩:=g3.slice;obtain⟨b4,rfl⟩:=g4.slice
 exact⟨b1,b2,b3,b4,rfl,g1,g2,g3,g4⟩
end Go.Vm.Tree
namespace Go.Vm.Tree
open Go Go.Proofs Go.Vm.Parse
attribute [local simp] repCells_succ writeAt rd_Fr toList_beq gpe gpn spe gse gsn
theorem cell_at {cs l:List Value}{n k j:Nat}{v:Value}(h:(cs.drop n).take k=l)(hj:l[j]? = some v):cs[n+j]? = some v:=by
 have:cs[n+j]? = some v:=by
  rw[← h,List.getElem?_take]at hj
  split at hj
  · rwa [List.getElem?_drop]at hj
  · cases hj
 exact this
theorem sz_mem {l:List Ex}{e:Ex}(h:e∈l):szX e≤szXs l:=by
 induction l with
 | nil=>cases h
 | cons a l ih =>
  simp only[szXs]
  rcases List.mem_cons.1 h with rfl | h
  · omega
  · have:=ih h;omega
theorem szs_mem {l:List Stm}{e:Stm}(h:e∈l):szS e≤szSs l:=by
 induction l with
 | nil=>cases h
 | cons a l ih =>
  simp only[szSs]
  rcases List.mem_cons.1 h with rfl | h
  · omega
  · have:=ih h;omega
theorem szb_mem {l:List Bra}{e:Bra}(h:e∈l):szB e≤szBs l:=by
 induction l with
 | nil=>cases h
 | cons a l ih =>
  simp only[szBs]
  rcases List.mem_cons.1 h with rfl | h
  · omega
  · have:=ih h;omega
theorem szBs_len:∀ l:List Bra,l.length≤szBs l
 | []=>by simp
 | e :: l=>by have:=szBs_len l;simp only[szBs,List.length_cons,szB];omega
section
variable {E:Hooks} (hE:Plain E)
include hE
end
end Go.Vm.Tree
namespace Go.Vm.Scope
open Go Go.Proofs Go.Vm.Parse
variable {β:Type}
def ents (f:β→Value)(l:List (ByteArray × β)):List (Value × Value):=l.map fun e=>(.string e.1,f e.2)
def findP (x:ByteArray):List (ByteArray × β)→Option β
 | []=>none
 | e :: l=>if e.1=x then some e.2 else findP x l
theorem ba_beq (a b:ByteArray):(a == b)=decide (a=b):=by
 obtain⟨x⟩:=a
 obtain⟨y⟩:=b
 show (x == y)=_
 by_cases h:x=y
 · subst h;simp
 · rw[decide_eq_false (fun e=>h (by cases e;rfl))]
   simpa using h
theorem find_ents (f:β→Value)(x:ByteArray):∀ l:List (ByteArray × β),mapFind (.string x) (ents f l)=some ((findP x l).map f)
 | []=>rfl
 | e :: l => by
  have ih:=find_ents f x l
  simp only[ents,List.map_cons]at ih ⊢
  simp only[mapFind,keyIs,ba_beq,findP]
  by_cases h:e.1=x
  · simp[h]
  · rw[decide_eq_false (fun h'=>h h'.symm),if_neg h]
    exact ih
theorem put_ents (f:β→Value)(x:ByteArray)(b:β):∀ l:List (ByteArray × β),findP x l=none→mapPut (.string x) (f b) (ents f l)=some (ents f (l++[(x,b)]))
 | [],_=>rfl
 | e :: l, h => by
  simp only[findP]at h
  by_cases he:e.1=x
  · rw[if_pos he]at h;cases h
  · rw[if_neg he]at h
    have ih:=put_ents f x b l h
    simp only[ents,List.map_cons,List.cons_append]at ih ⊢
    simp only[mapPut,keyIs,ba_beq]
    rw[decide_eq_false (fun h'=>he h'.symm)]
    simp only[ih,Option.map_some]
theorem len_ents (f:β→Value)(l:List (ByteArray × β)):(ents f l).length=l.length:=by simp[ents]
structure Nm where
 kind:Int
 index:Int
 size:Int
def Nm.v (x:Nm):Value := .agg ⟨[.int .i64 x.kind,.int .i64 x.index,.int .i64 x.size]⟩
def vI (n:Int):Value := .int .i64 n
structure Cel where
 base:Int
 size:Int
structure Tab where
 names:List (ByteArray × Nm)
 procs:List (ByteArray × Int)
 locals:List (List (ByteArray × Int))
 params:List Int
 cells:List Cel
 semas:List Int
 totals:List Int
 regions:List (ByteArray × Int)
 words:Int
def repInt:Rep Int where
 k:=1
 R _ _ x cs:=cs=[.int .i64 x]
 len h:=by subst h;rfl
 move _ _ _ _ h:=h
def repCel:Rep Cel where
 k:=2
 R _ _ x cs:=cs=[.int .i64 x.base,.int .i64 x.size]
 len h:=by subst h;rfl
 move _ _ _ _ h:=h
def repLoc:Rep (List (ByteArray × Int)) where
 k:=1
 R H S l cs:=(cs=[.map none]∧l=[])∨∃ id,cs=[.map (some id)]∧S id∧H.get id = .map (ents vI l)
 len h:=by rcases h with⟨rfl,_⟩ | ⟨id,rfl,_⟩<;>rfl
 move k hs l cs h:=by
  rcases h with h | ⟨id,h1,h2,h3⟩
  · exact .inl h
  · have:=hs id h2 (Heap.lt_of_get h3 (by simp))
    exact .inr ⟨id,h1,this.1,k.at h3 (by simp) this.2⟩
structure RTab (H:Heap)(col:Nat→Nat)(tid nid pid rid:Nat)(v1 v2 v3 v4 v5:Value)(T:Tab):Prop where
 obj:H.get tid = .row true 0 1 [.map (some nid),.map (some pid),v1,v2,v3,v4,v5,.map (some rid),.int .i64 T.words]
 tc:col tid=1
 nm:H.get nid = .map (ents Nm.v T.names)
 nc:col nid=2
 pm:H.get pid = .map (ents vI T.procs)
 pc:col pid=3
 rm:H.get rid = .map (ents vI T.regions)
 rc:col rid=4
 g1:repLoc.G H (fun i=>col i=5) v1 T.locals
 g2:repInt.G H (fun i=>col i=6) v2 T.params
 g3:repCel.G H (fun i=>col i=7) v3 T.cells
 g4:repInt.G H (fun i=>col i=8) v4 T.semas
 g5:repInt.G H (fun i=>col i=9) v5 T.totals
 top:∀ i,H.n≤i→col i=0
section
variable {H H':Heap} {col:Nat→Nat} {tid nid pid rid:Nat} {v1 v2 v3 v4 v5:Value} {T:Tab}
theorem RTab.keep {X:Nat→Prop}(h:RTab H col tid nid pid rid v1 v2 v3 v4 v5 T)(k:Same X H H')(hx:∀ i,X i→col i=0):RTab H' col tid nid pid rid v1 v2 v3 v4 v5 T :=
 ⟨k.at h.obj (by simp) (fun e=>by have:=hx _ e;have:=h.tc;omega),h.tc,
  k.at h.nm (by simp) (fun e=>by have:=hx _ e;have:=h.nc;omega),h.nc,
  k.at h.pm (by simp) (fun e=>by have:=hx _ e;have:=h.pc;omega),h.pc,
  k.at h.rm (by simp) (fun e=>by have:=hx _ e;have:=h.rc;omega),h.rc,
  repLoc.G_move k (fun i hi _=>⟨hi,fun e=>by have:=hx _ e;omega⟩) h.g1,repInt.G_move k (fun i hi _=>⟨hi,fun e=>by have:=hx _ e;omega⟩) h.g2,
  repCel.G_move k (fun i hi _=>⟨hi,fun e=>by have:=hx _ e;omega⟩) h.g3,repInt.G_move k (fun i hi _=>⟨hi,fun e=>by have:=hx _ e;omega⟩) h.g4,
  repInt.G_move k (fun i hi _=>⟨hi,fun e=>by have:=hx _ e;omega⟩) h.g5,fun i hi=>h.top i (Nat.le_trans k.n hi)⟩
theorem RTab.lt (h:RTab H col tid nid pid rid v1 v2 v3 v4 v5 T):tid<H.n∧nid<H.n∧pid<H.n∧rid<H.n :=
 ⟨Heap.lt_of_get h.obj (by simp),Heap.lt_of_get h.nm (by simp),Heap.lt_of_get h.pm (by simp),Heap.lt_of_get h.rm (by simp)⟩
theorem col_app {α:Type}(ρ:Rep α){t:TypeId}(F:TF Tryz.prog t ρ.k){c:Nat}(hc:c≠0)(top:∀ i,H.n≤i→col i=0){v:Value}{l:List α}(g:ρ.G H (fun i=>col i=c) v l)(hl:l.length≤100000){a:α}{cs:List Value}(ha:ρ.R H (fun i=>col i=c∧¬vid v i) a cs) :
  ∃ b' K',∃ col':Nat→Nat,exAppend Tryz.prog [t,t] v (.slice (some ⟨H.n,0,none⟩) 1 1) (H.push (.row true 0 ρ.k cs))=some (.slice b' (l.length+1) (l.length+1),K')∧ρ.G K' (fun i=>col' i=c) (.slice b' (l.length+1) (l.length+1)) (l++[a]) ∧
   Same (fun i=>col i=c) H K'∧(∀ i,i<H.n→col' i=col i)∧(∀ i,K'.n≤i→col' i=0):=by
 have g':ρ.G H (fun i=>col i=c∨H.n≤i) v l:=ρ.G_move (Same.refl (fun _=>False) _) (fun i hi _=>⟨.inl hi,fun h=>h⟩) g
 obtain⟨v',K',e,gv,k⟩:=ρ.G_app F g' (fun i hi => .inr hi) hl (a:=a) (c:=cs) (ρ.move (Same.refl (fun _=>False) _) (fun i hi _=>⟨⟨.inl hi.1,hi.2⟩,fun h=>h⟩) _ _ ha)
 obtain⟨b',rfl⟩:=ρ.G_slice gv
 have e1:(l++[a]).length=l.length+1:=by simp
 rw[e1]at e gv
 have nk:=k.n
 refine⟨b',K',fun i=>if i<H.n then col i else if i<K'.n then c else 0,e,ρ.G_move (Same.refl (fun _=>False) _) (fun i hi hlt=>⟨?_,fun h=>h⟩) gv,k.mono fun i hi=>(ρ.G_lt g hi).2,fun i hi=>if_pos hi,fun i hi=>by show (if i<H.n then col i else if i<K'.n then c else 0)=0;rw[if_neg (by omega),if_neg (by omega)]⟩
 show (if i<H.n then col i else if i<K'.n then c else 0)=c
 by_cases h:i<H.n
 · rw[if_pos h]
   rcases hi with hi | hi
   · exact hi
   · omega
 · rw[if_neg h,if_pos hlt]
end
end Go.Vm.Scope
namespace Go.Vm.Scope
open Go Go.Proofs Go.Vm.Parse
attribute [local simp] repCells_succ writeAt rd_Fr toList_beq gpe gpn spe gse gsn ne_r0 ne_l0 le_s0 ne_r1 ne_l1 lt_s1 le_s1 ne_r2 ne_l2 lt_s2 le_s2 ne_r3 ne_l3 lt_s3 le_s3 ne_r4 ne_l4 lt_s4 le_s4 ne_r5 ne_l5 lt_s5 le_s5 ne_r6 ne_l6 lt_s6 le_s6 ne_r7 ne_l7 lt_s7 le_s7
section
variable {E:Hooks} (hE:Plain E)
include hE
theorem c_known (args:List Value)(H:Heap):(run Tryz.prog E).call 36 args H=callB Tryz.prog E Tryz.f36 args H:=call_B Tryz.func36 rfl (by decide +kernel) (hE.no _ rfl rfl) args H
theorem c_of (args:List Value)(H:Heap):(run Tryz.prog E).call 37 args H=callB Tryz.prog E Tryz.f37 args H:=call_B Tryz.func37 rfl (by decide +kernel) (hE.no _ rfl rfl) args H
theorem c_class (args:List Value)(H:Heap):(run Tryz.prog E).call 123 args H=callB Tryz.prog E Tryz.f123 args H:=call_B Tryz.func123 rfl (by decide +kernel) (hE.no _ rfl rfl) args H
theorem c_sema (args:List Value)(H:Heap):(run Tryz.prog E).call 124 args H=callB Tryz.prog E Tryz.f124 args H:=call_B Tryz.func124 rfl (by decide +kernel) (hE.no _ rfl rfl) args H
theorem c_variable (args:List Value)(H:Heap):(run Tryz.prog E).call 125 args H=callB Tryz.prog E Tryz.f125 args H:=call_B Tryz.func125 rfl (by decide +kernel) (hE.no _ rfl rfl) args H
theorem c_shared (args:List Value)(H:Heap):(run Tryz.prog E).call 126 args H=callB Tryz.prog E Tryz.f126 args H:=call_B Tryz.func126 rfl (by decide +kernel) (hE.no _ rfl rfl) args H
theorem c_sproc (args:List Value)(H:Heap):(run Tryz.prog E).call 38 args H=callB Tryz.prog E Tryz.f38 args H:=call_B Tryz.func38 rfl (by decide +kernel) (hE.no _ rfl rfl) args H
theorem c_Build (args:List Value)(H:Heap):(run Tryz.prog E).call 13 args H=callB Tryz.prog E Tryz.f13 args H:=call_B Tryz.func13 rfl (by decide +kernel) (hE.no _ rfl rfl) args H
end
def knownP (T:Tab)(x:ByteArray):Bool:=(findP x T.names).isSome || (findP x T.procs).isSome
def zN:Value := .agg ⟨[.int .i64 0,.int .i64 0,.int .i64 0]⟩
theorem look_names {H:Heap}{nid:Nat}{l:List (ByteArray × Nm)}(h:H.get nid = .map (ents Nm.v l))(x:ByteArray) :
  exLookup Tryz.prog 79 (.map (some nid)) (.string x) true H=some (.tuple #[((findP x l).map Nm.v).getD zN,.bool (findP x l).isSome]):=by
 have f:=find_ents Nm.v x l
 cases e:findP x l with
 | none=>rw[e]at f;simp only[Option.map_none]at f;simp[exLookup,keyKind,h,f,zN]
 | some b=>rw[e]at f;simp only[Option.map_some]at f;simp[exLookup,keyKind,h,f]
theorem look_ints {H:Heap}{nid:Nat}{l:List (ByteArray × Int)}(h:H.get nid = .map (ents vI l))(x:ByteArray) :
  exLookup Tryz.prog 80 (.map (some nid)) (.string x) true H=some (.tuple #[((findP x l).map vI).getD (.int .i64 0),.bool (findP x l).isSome]):=by
 have f:=find_ents vI x l
 cases e:findP x l with
 | none=>rw[e]at f;simp only[Option.map_none]at f;simp[exLookup,keyKind,h,f]
 | some b=>rw[e]at f;simp only[Option.map_some]at f;simp[exLookup,keyKind,h,f]
theorem nm_three (o:Option Nm):∃ a b c,(o.map Nm.v).getD zN = .agg ⟨[.int .i64 a,.int .i64 b,.int .i64 c]⟩:=by
 cases o with
 | none=>exact⟨0,0,0,rfl⟩
 | some x=>exact⟨x.kind,x.index,x.size,rfl⟩
theorem m_class : exMethod Tryz.prog 143 "signalbox/scope.into" = some 123 := by kernel_rfl
theorem m_sema : exMethod Tryz.prog 144 "signalbox/scope.into" = some 124 := by kernel_rfl
theorem m_shared : exMethod Tryz.prog 147 "signalbox/scope.into" = some 126 := by kernel_rfl
theorem m_variable : exMethod Tryz.prog 145 "signalbox/scope.into" = some 125 := by kernel_rfl
def kindV (k:Int):Value:=if k=1 then .iface 143 (.agg #[])else if k=2 then .iface 144 (.agg #[])else if k=3 then .iface 147 (.agg #[])else .iface 145 (.agg #[])
section
variable {E:Hooks} (hE:Plain E) {H:Heap} {col:Nat→Nat} {tid nid pid rid:Nat} {v1 v2 v3 v4 v5:Value} {T:Tab}
include hE
theorem known_run (h:RTab H col tid nid pid rid v1 v2 v3 v4 v5 T)(x:ByteArray):∃ H',(run Tryz.prog E).call 36 [.pointer (some ⟨tid,0,none⟩),.string x] H=some (.val (.bool (knownP T x)),H')∧Same (fun _=>False) H H':=by
 suffices key:Gives ((run Tryz.prog E).call 36 [.pointer (some ⟨tid,0,none⟩),.string x] H) fun o H'=>o = .val (.bool (knownP T x))∧Same (fun _=>False) H H' by
  obtain⟨o,H',e,rfl,k⟩:=key
  exact⟨H',e,k⟩
 have g0:=h.obj
 have f1:=look_names h.nm x
 have h1:=h.lt
 obtain⟨a,b,c,e1⟩:=nm_three (findP x T.names)
 rw[e1]at f1
 have h2:∀ o,(H.push o).get pid = .map (ents vI T.procs):=fun o=>by rw[Heap.get_push,if_neg (by omega)];exact h.pm
 have f2:=fun o=>look_ints (h2 o) x
 rw[c_known hE,callB,bodyOf]
 unfold knownP
 have hq:∀ p q:Bool,(if p=true then true else q)=(p || q):=by decide
 generalize (findP x T.names).isSome=p at f1 ⊢
 cases p<;>simp[Tryz.f36,g0,f1,f2,h1]<;>exact Same.push _ _ _
theorem of_run (k:Int)(H:Heap):(run Tryz.prog E).call 37 [.int .i64 k] H=some (.val (kindV k),H):=by
 suffices key:Gives ((run Tryz.prog E).call 37 [.int .i64 k] H) fun o H'=>o = .val (kindV k)∧H'=H by
  obtain⟨o,H',e,rfl,rfl⟩:=key
  exact e
 rw[c_of hE,callB,bodyOf]
 unfold kindV
 by_cases h1:k=1
 · simp[Tryz.f37,h1,ifaceA]
 · by_cases h2:k=2
   · simp[Tryz.f37,h2,ifaceA]
   · by_cases h3:k=3
     · simp[Tryz.f37,h3,ifaceA]
     · simp[Tryz.f37,h1,h2,h3,ifaceA]
end
def intoV (T:Tab)(d:Dcl):Tab:={ T with names:=T.names++[(d.name,⟨d.kind,T.cells.length,d.n⟩)],cells:=T.cells++[⟨T.words,d.n⟩],words:=T.words+max d.n 1 }
def intoP (T:Tab)(d:Dcl):Except Int Tab :=
 if d.kind=1 then
  if 6≤T.totals.length then .error 16 else if d.n<1∨1000<d.n then .error 24
  else .ok { T with names:=T.names++[(d.name,⟨d.kind,T.totals.length,0⟩)],totals:=T.totals++[d.n] }
 else if d.kind=2 then
  if 8≤T.semas.length then .error 16 else if d.n<0∨1000<d.n then .error 24
  else .ok { T with names:=T.names++[(d.name,⟨d.kind,T.semas.length,0⟩)],semas:=T.semas++[d.n] }
 else if 16≤T.cells.length then .error 16
 else if d.kind=3 then .ok { intoV T d with regions:=T.regions++[(d.name,(T.regions.length:Int))] }
 else .ok (intoV T d)
def RetInto (H:Heap)(col:Nat→Nat)(tid:Nat)(res:Except Int Tab)(o:Out)(H':Heap):Prop :=
 match res with
 | .error c=>o = .val (.int .i64 c)∧c≠0∧Same (fun _=>False) H H'
 | .ok T'=>o = .val (.int .i64 0)∧(∃ col':Nat→Nat,(∃ nid pid rid v1 v2 v3 v4 v5,RTab H' col' tid nid pid rid v1 v2 v3 v4 v5 T')∧∀ i,i<H.n→col' i=col i)∧Same (fun i=>col i≠0) H H'
section
variable {K K':Heap} {col col':Nat→Nat} {v:Value}
theorem col_other {α:Type}(ρ:Rep α){c c2:Nat}{l:List α}(h:c2≠c)(k:Same (fun i=>col i=c) K K')(hc:∀ i,i<K.n→col' i=col i)(g:ρ.G K (fun i=>col i=c2) v l):ρ.G K' (fun i=>col' i=c2) v l :=
 ρ.G_move k (fun i hi hlt=>⟨by rw[hc i hlt];exact hi,fun e=>h (hi.symm.trans e)⟩) g
theorem col_set {α:Type}(ρ:Rep α){c c2 i:Nat}{l:List α}(h:c2≠c)(hi:col i=c)(hlt:i<K.n)(g:ρ.G K (fun j=>col j=c2) v l)(o:AObj):ρ.G (K.set i o) (fun j=>col j=c2) v l :=
 ρ.G_move (Same.set (X:=fun j=>j=i) K hlt rfl o) (fun j hj _=>⟨hj,fun e=>h (by rw[← hj,e,hi])⟩) g
variable {tid nid pid rid:Nat} {v1 v2 v3 v4 v5:Value} {T:Tab}
theorem RTab.set_names (h:RTab K col tid nid pid rid v1 v2 v3 v4 v5 T)(l:List (ByteArray × Nm)):RTab (K.set nid (.map (ents Nm.v l))) col tid nid pid rid v1 v2 v3 v4 v5 { T with names:=l }:=by
 have lt:=h.lt.2.1
 have tc:=h.tc
 have nc:=h.nc
 have pc:=h.pc
 have rc:=h.rc
 have k:Same (fun i=>i=nid) K (K.set nid (.map (ents Nm.v l))):=Same.set (X:=fun i=>i=nid) K lt rfl _
 exact⟨k.at h.obj (by simp) (fun e=>by subst e;omega),tc,Heap.get_set_self _ _ lt,nc,k.at h.pm (by simp) (fun e=>by subst e;omega),pc,k.at h.rm (by simp) (fun e=>by subst e;omega),rc,
  col_set repLoc (c:=2) (by omega) nc lt h.g1 _,col_set repInt (c:=2) (by omega) nc lt h.g2 _,col_set repCel (c:=2) (by omega) nc lt h.g3 _,col_set repInt (c:=2) (by omega) nc lt h.g4 _,col_set repInt (c:=2) (by omega) nc lt h.g5 _,h.top⟩
theorem RTab.set_regions (h:RTab K col tid nid pid rid v1 v2 v3 v4 v5 T)(l:List (ByteArray × Int)):RTab (K.set rid (.map (ents vI l))) col tid nid pid rid v1 v2 v3 v4 v5 { T with regions:=l }:=by
 have lt:=h.lt.2.2.2
 have tc:=h.tc
 have nc:=h.nc
 have pc:=h.pc
 have rc:=h.rc
 have k:Same (fun i=>i=rid) K (K.set rid (.map (ents vI l))):=Same.set (X:=fun i=>i=rid) K lt rfl _
 exact⟨k.at h.obj (by simp) (fun e=>by subst e;omega),tc,k.at h.nm (by simp) (fun e=>by subst e;omega),nc,k.at h.pm (by simp) (fun e=>by subst e;omega),pc,Heap.get_set_self _ _ lt,rc,
  col_set repLoc (c:=4) (by omega) rc lt h.g1 _,col_set repInt (c:=4) (by omega) rc lt h.g2 _,col_set repCel (c:=4) (by omega) rc lt h.g3 _,col_set repInt (c:=4) (by omega) rc lt h.g4 _,col_set repInt (c:=4) (by omega) rc lt h.g5 _,h.top⟩
theorem RTab.step (h:RTab K col tid nid pid rid v1 v2 v3 v4 v5 T){c:Nat}(hc:5≤c)(k:Same (fun i=>col i=c) K K')(he:∀ i,i<K.n→col' i=col i)(ht:∀ i,K'.n≤i→col' i=0) :
  (K'.get tid = .row true 0 1 [.map (some nid),.map (some pid),v1,v2,v3,v4,v5,.map (some rid),.int .i64 T.words]∧tid<K'.n) ∧
  ∀ {w1 w2 w3 w4 w5:Value} {T':Tab} (words:Int),T'.names=T.names→T'.procs=T.procs→T'.regions=T.regions→T'.words=words →
   repLoc.G K' (fun i=>col' i=5) w1 T'.locals→repInt.G K' (fun i=>col' i=6) w2 T'.params→repCel.G K' (fun i=>col' i=7) w3 T'.cells→repInt.G K' (fun i=>col' i=8) w4 T'.semas→repInt.G K' (fun i=>col' i=9) w5 T'.totals →
   RTab (K'.set tid (.row true 0 1 [.map (some nid),.map (some pid),w1,w2,w3,w4,w5,.map (some rid),.int .i64 words])) col' tid nid pid rid w1 w2 w3 w4 w5 T':=by
 have tc:=h.tc
 have nc:=h.nc
 have pc:=h.pc
 have rc:=h.rc
 obtain⟨l1,l2,l3,l4⟩:=h.lt
 have e1:=he _ l1
 have e2:=he _ l2
 have e3:=he _ l3
 have e4:=he _ l4
 have nk:=k.n
 have o:=k.at h.obj (by simp) (by omega)
 refine⟨⟨o,by omega⟩,?_⟩
 intro w1 w2 w3 w4 w5 T' words h1 h2 h3 h4 g1 g2 g3 g4 g5
 have q:Same (fun i=>i=tid) K' (K'.set tid (.row true 0 1 [.map (some nid),.map (some pid),w1,w2,w3,w4,w5,.map (some rid),.int .i64 words])):=Same.set (X:=fun i=>i=tid) K' (by omega) rfl _
 have t1:col' tid=1:=by omega
 subst h4
 exact⟨Heap.get_set_self _ _ (by omega),t1,by rw[h1];exact q.at (k.at h.nm (by simp) (by omega)) (by simp) (fun e=>by subst e;omega),by omega,by rw[h2];exact q.at (k.at h.pm (by simp) (by omega)) (by simp) (fun e=>by subst e;omega),by omega,
  by rw[h3];exact q.at (k.at h.rm (by simp) (by omega)) (by simp) (fun e=>by subst e;omega),by omega,col_set repLoc (by omega) t1 (by omega) g1 _,col_set repInt (by omega) t1 (by omega) g2 _,col_set repCel (by omega) t1 (by omega) g3 _,col_set repInt (by omega) t1 (by omega) g4 _,col_set repInt (by omega) t1 (by omega) g5 _,ht⟩
end
theorem tf_int:TF Tryz.prog 22 1:=⟨_,_,_,by simp,by simp,by simp;rfl,by omega,by simp;rfl,rfl,by omega,rfl⟩
theorem tf_cel:TF Tryz.prog 82 2:=⟨_,_,_,by simp,by simp,by simp;rfl,by omega,by simp;rfl,rfl,by omega,rfl⟩
theorem put_names {H:Heap}{nid:Nat}{l:List (ByteArray × Nm)}(h:H.get nid = .map (ents Nm.v l)){x:ByteArray}(hx:findP x l=none)(a b c:Int) :
  exMapPut Tryz.prog 79 (.map (some nid)) (.string x) (.agg ⟨[.int .i64 a,.int .i64 b,.int .i64 c]⟩) H=some (H.set nid (.map (ents Nm.v (l++[(x,⟨a,b,c⟩)])))):=by
 have f:=put_ents Nm.v x ⟨a,b,c⟩ l hx
 simp only[Nm.v]at f
 simp[exMapPut,keyKind,h,f,Nm.v]
theorem put_ints {H:Heap}{nid:Nat}{l:List (ByteArray × Int)}(h:H.get nid = .map (ents vI l)){x:ByteArray}(hx:findP x l=none)(a:Int) :
  exMapPut Tryz.prog 80 (.map (some nid)) (.string x) (.int .i64 a) H=some (H.set nid (.map (ents vI (l++[(x,a)])))):=by
 have f:=put_ents vI x a l hx
 simp only[vI]at f
 simp[exMapPut,keyKind,h,f,vI]
theorem q_class:quiet Tryz.prog (drawN Tryz.f123 0)=true:=by decide +kernel
theorem pl_class:planOf Tryz.prog (drawN Tryz.f123 1)=some [(some (0,2)),(some (0,1)),(some (0,1)),(some (0,1)),(some (0,1)),none,none,none,none,none,none,none]:=by decide +kernel
theorem q_sema:quiet Tryz.prog (drawN Tryz.f124 0)=true:=by decide +kernel
theorem pl_sema:planOf Tryz.prog (drawN Tryz.f124 1)=some [(some (0,2)),(some (0,1)),(some (0,1)),(some (0,1)),(some (0,1)),none,none,none,none,none,none,none]:=by decide +kernel
section
variable {E:Hooks} (hE:Plain E) {H:Heap} {col:Nat→Nat} {tid nid pid rid:Nat} {v1 v2 v3 v4 v5:Value} {T:Tab}
include hE
theorem class_run (h:RTab H col tid nid pid rid v1 v2 v3 v4 v5 T)(d:Dcl)(hk:d.kind=1)(hn:findP d.name T.names=none)(hlen:T.totals.length≤100) :
  Gives ((run Tryz.prog E).call 123 [.agg #[],.pointer (some ⟨tid,0,none⟩),.agg ⟨dsc d.kind d.at_ d.name d.n⟩] H) (RetInto H col tid (intoP T d)):=by
 obtain⟨dk,da,dx,dn⟩:=d
 simp only at hk hn ⊢
 subst hk
 have hp:=(h.keep (Same.push (fun _=>False) _ (.unit 143)) (fun _ h=>h.elim)).keep (Same.push (fun _=>False) _ (.row true 0 1 (dsc 1 da dx dn))) (fun _ h=>h.elim)
 have kp:Same (fun _=>False) H ((H.push (.unit 143)).push (.row true 0 1 (dsc 1 da dx dn))):=(Same.push _ _ _).then_push _
 obtain⟨b,rfl⟩:=repInt.G_slice h.g5
 have g0:=hp.obj
 have lt:=h.lt
 rw[c_class hE,callB,bodyOf]
 unfold intoP
 rw[if_pos (show (1:Int)=1 from rfl)]
 simp only[dsc]at g0 hp kp ⊢
 by_cases c1:6≤T.totals.length
 · rw[if_pos c1]
   have c1':(6:Int)≤T.totals.length:=by omega
   simp[Tryz.f123,g0,c1,c1']
   exact⟨rfl,by omega,kp⟩
 rw[if_neg c1]
 have c1':¬(6:Int)≤T.totals.length:=by omega
 by_cases c2:dn<1∨1000<dn
 · rw[if_pos c2]
   by_cases c3:dn<1
   · simp[Tryz.f123,g0,c1,c1',c3]
     exact⟨rfl,by omega,kp⟩
   · have c4:1000<dn:=c2.resolve_left c3
     simp[Tryz.f123,g0,c1,c1',c3,c4]
     exact⟨rfl,by omega,kp⟩
 rw[if_neg c2]
 have c3:¬dn<1:=fun e=>c2 (.inl e)
 have c4:¬1000<dn:=fun e=>c2 (.inr e)
 have f1:=put_names hp.nm hn 1 T.totals.length 0
 have h2:=hp.set_names (T.names++[(dx,⟨1,T.totals.length,0⟩)])
 have g2:=h2.obj
 dsimp only at g2
 have l2:=h2.lt
 generalize hK:((H.push (.unit 143)).push (.row true 0 1 [.int .i64 1,.int .i64 da,.string dx,.int .i64 dn])).set nid (.map (ents Nm.v (T.names++[(dx,⟨1,T.totals.length,0⟩)])))=K at *
 have gd:K.get (H.n+1) = .row true 0 1 [.int .i64 1,.int .i64 da,.string dx,.int .i64 dn]:=by rw[← hK,Heap.get_set _ _ _ (by simp;omega),if_neg (by omega)];exact Heap.get_push_self _ _
 have nK:K.n=H.n+2:=by rw[← hK];rfl
 obtain⟨b',K',col',eA,gA,kA,he,ht⟩:=col_app repInt tf_int (c:=9) (l:=T.totals) (by omega) h2.top h2.g5 (by omega) (a:=dn) (cs:=[.int .i64 dn]) rfl
 have st:=h2.step (by omega) kA he ht
 have gA':=st.1.1
 dsimp only at gA'
 have tA:=st.1.2
 have fin:=st.2 (w1:=v1) (w2:=v2) (w3:=v3) (w4:=v4) (w5 := .slice b' (T.totals.length+1) (T.totals.length+1)) (T':={ T with names:=T.names++[(dx,⟨1,T.totals.length,0⟩)],totals:=T.totals++[dn] }) T.words rfl rfl rfl rfl
  (col_other repLoc (by omega) kA he h2.g1) (col_other repInt (by omega) kA he h2.g2) (col_other repCel (by omega) kA he h2.g3) (col_other repInt (by omega) kA he h2.g4) gA
 simp only[repInt]at eA
 simp[Tryz.f123,g0,c1,c1',c3,c4]
 refine region_quiet (by exact q_class) ?_
 simp[g0,f1,hK]
 refine region_plan (by exact pl_class) ?_
 have nd:H.n+1<K.n:=by omega
 simp[g2,gd,nd,l2,eA,gA',tA]
 have k1:Same (fun i=>col i≠0) H K:=by rw[← hK];exact (Same.none kp).then_set (by simp;omega) (.inl (by have:=h.nc;omega)) _
 exact⟨rfl,⟨col',⟨_,_,_,_,_,_,_,_,fin⟩,fun i hi=>he i (by omega)⟩,(k1.then kA (fun i hi => .inl (by omega))).then_set tA (.inl (by have:=h.tc;omega)) _⟩
theorem sema_run (h:RTab H col tid nid pid rid v1 v2 v3 v4 v5 T)(d:Dcl)(hk:d.kind=2)(hn:findP d.name T.names=none)(hlen:T.semas.length≤100) :
  Gives ((run Tryz.prog E).call 124 [.agg #[],.pointer (some ⟨tid,0,none⟩),.agg ⟨dsc d.kind d.at_ d.name d.n⟩] H) (RetInto H col tid (intoP T d)):=by
 obtain⟨dk,da,dx,dn⟩:=d
 simp only at hk hn ⊢
 subst hk
 have hp:=(h.keep (Same.push (fun _=>False) _ (.unit 144)) (fun _ h=>h.elim)).keep (Same.push (fun _=>False) _ (.row true 0 1 (dsc 2 da dx dn))) (fun _ h=>h.elim)
 have kp:Same (fun _=>False) H ((H.push (.unit 144)).push (.row true 0 1 (dsc 2 da dx dn))):=(Same.push _ _ _).then_push _
 obtain⟨b,rfl⟩:=repInt.G_slice h.g4
 have g0:=hp.obj
 have lt:=h.lt
 rw[c_sema hE,callB,bodyOf]
 unfold intoP
 rw[if_neg (show ¬(2:Int)=1 by omega),if_pos (show (2:Int)=2 from rfl)]
 simp only[dsc]at g0 hp kp ⊢
 by_cases c1:8≤T.semas.length
 · rw[if_pos c1]
   have c1':(8:Int)≤T.semas.length:=by omega
   simp[Tryz.f124,g0,c1,c1']
   exact⟨rfl,by omega,kp⟩
 rw[if_neg c1]
 have c1':¬(8:Int)≤T.semas.length:=by omega
 by_cases c2:dn<0∨1000<dn
 · rw[if_pos c2]
   by_cases c3:dn<0
   · simp[Tryz.f124,g0,c1,c1',c3]
     exact⟨rfl,by omega,kp⟩
   · have c4:1000<dn:=c2.resolve_left c3
     simp[Tryz.f124,g0,c1,c1',c3,c4]
     exact⟨rfl,by omega,kp⟩
 rw[if_neg c2]
 have c3:¬dn<0:=fun e=>c2 (.inl e)
 have c4:¬1000<dn:=fun e=>c2 (.inr e)
 have f1:=put_names hp.nm hn 2 T.semas.length 0
 have h2:=hp.set_names (T.names++[(dx,⟨2,T.semas.length,0⟩)])
 have g2:=h2.obj
 dsimp only at g2
 have l2:=h2.lt
 generalize hK:((H.push (.unit 144)).push (.row true 0 1 [.int .i64 2,.int .i64 da,.string dx,.int .i64 dn])).set nid (.map (ents Nm.v (T.names++[(dx,⟨2,T.semas.length,0⟩)])))=K at *
 have gd:K.get (H.n+1) = .row true 0 1 [.int .i64 2,.int .i64 da,.string dx,.int .i64 dn]:=by rw[← hK,Heap.get_set _ _ _ (by simp;omega),if_neg (by omega)];exact Heap.get_push_self _ _
 have nK:K.n=H.n+2:=by rw[← hK];rfl
 obtain⟨b',K',col',eA,gA,kA,he,ht⟩:=col_app repInt tf_int (c:=8) (l:=T.semas) (by omega) h2.top h2.g4 (by omega) (a:=dn) (cs:=[.int .i64 dn]) rfl
 have st:=h2.step (by omega) kA he ht
 have gA':=st.1.1
 dsimp only at gA'
 have tA:=st.1.2
 have fin:=st.2 (w1:=v1) (w2:=v2) (w3:=v3) (w4 := .slice b' (T.semas.length+1) (T.semas.length+1)) (w5:=v5) (T':={ T with names:=T.names++[(dx,⟨2,T.semas.length,0⟩)],semas:=T.semas++[dn] }) T.words rfl rfl rfl rfl
  (col_other repLoc (by omega) kA he h2.g1) (col_other repInt (by omega) kA he h2.g2) (col_other repCel (by omega) kA he h2.g3) gA (col_other repInt (by omega) kA he h2.g5)
 simp only[repInt]at eA
 simp[Tryz.f124,g0,c1,c1',c3,c4]
 refine region_quiet (by exact q_sema) ?_
 simp[g0,f1,hK]
 refine region_plan (by exact pl_sema) ?_
 have nd:H.n+1<K.n:=by omega
 simp[g2,gd,nd,l2,eA,gA',tA]
 have k1:Same (fun i=>col i≠0) H K:=by rw[← hK];exact (Same.none kp).then_set (by simp;omega) (.inl (by have:=h.nc;omega)) _
 exact⟨rfl,⟨col',⟨_,_,_,_,_,_,_,_,fin⟩,fun i hi=>he i (by omega)⟩,(k1.then kA (fun i hi => .inl (by omega))).then_set tA (.inl (by have:=h.tc;omega)) _⟩
end
theorem q_var0:quiet Tryz.prog (drawN Tryz.f125 0)=true:=by decide +kernel
theorem pl_var:planOf Tryz.prog (drawN Tryz.f125 1)=some [(some (0,2)),(some (0,1)),(some (0,1)),(some (0,1)),(some (0,1)),none,none,none,none,none,none,none,none,none,none,none,none]:=by decide +kernel
theorem q_var2:quiet Tryz.prog (drawN Tryz.f125 2)=true:=by decide +kernel
theorem q_sha0:quiet Tryz.prog (drawN Tryz.f126 0)=true:=by decide +kernel
theorem unit_field (i:Nat):unitF Tryz.prog 147 0 i 0 (.unit 147)=some (.pointer (some ⟨i,0,none⟩)):=by
 have h:∀ P:Program,∀ fl:Field,∀ fs:Array Field,P.underlying 147=some (.struct fs)→fs[0]? = some fl→sizeT P 147=some 0→fl.offset=0→fl.byteOffset=0→unitF P 147 0 i 0 (.unit 147)=some (.pointer (some ⟨i,0,none⟩)):=by
  intro P fl fs h1 h2 h3 h4 h5
  simp only[unitF,h1,h2,unitField,h3,h4,h5]
  rfl
 exact h Tryz.prog _ _ (by simp;rfl) rfl (by simp) rfl rfl
theorem len_ints {H:Heap}{nid:Nat}{l:List (ByteArray × Int)}(h:H.get nid = .map (ents vI l)):exLen Tryz.prog [80] (.map (some nid)) H=some (.int .i64 l.length):=by
 simp[exLen,h,len_ents]
def varP (T:Tab)(d:Dcl):Except Int Tab:=if 16≤T.cells.length then .error 16 else .ok (intoV T d)
section
variable {E:Hooks} (hE:Plain E) {H:Heap} {col:Nat→Nat} {tid nid pid rid:Nat} {v1 v2 v3 v4 v5:Value} {T:Tab}
include hE
theorem variable_run (h:RTab H col tid nid pid rid v1 v2 v3 v4 v5 T)(d:Dcl)(hn:findP d.name T.names=none)(hw1:0≤T.words)(hw2:T.words+max d.n 1≤9223372036854775807) :
  Gives ((run Tryz.prog E).call 125 [.agg #[],.pointer (some ⟨tid,0,none⟩),.agg ⟨dsc d.kind d.at_ d.name d.n⟩] H) (RetInto H col tid (varP T d)):=by
 obtain⟨dk,da,dx,dn⟩:=d
 simp only at hn hw2 ⊢
 have hp:=(h.keep (Same.push (fun _=>False) _ (.unit 145)) (fun _ h=>h.elim)).keep (Same.push (fun _=>False) _ (.row true 0 1 (dsc dk da dx dn))) (fun _ h=>h.elim)
 have kp:Same (fun _=>False) H ((H.push (.unit 145)).push (.row true 0 1 (dsc dk da dx dn))):=(Same.push _ _ _).then_push _
 obtain⟨b,rfl⟩:=repCel.G_slice h.g3
 have g0:=hp.obj
 have lt:=h.lt
 rw[c_variable hE,callB,bodyOf]
 unfold varP
 simp only[dsc]at g0 hp kp ⊢
 by_cases c1:16≤T.cells.length
 · rw[if_pos c1]
   have c1':(16:Int)≤T.cells.length:=by omega
   simp[Tryz.f125,g0,c1,c1']
   exact⟨rfl,by omega,kp⟩
 rw[if_neg c1]
 have c1':¬(16:Int)≤T.cells.length:=by omega
 have f1:=put_names hp.nm hn dk T.cells.length dn
 have h2:=hp.set_names (T.names++[(dx,⟨dk,T.cells.length,dn⟩)])
 have g2:=h2.obj
 dsimp only at g2
 have l2:=h2.lt
 generalize hK:((H.push (.unit 145)).push (.row true 0 1 [.int .i64 dk,.int .i64 da,.string dx,.int .i64 dn])).set nid (.map (ents Nm.v (T.names++[(dx,⟨dk,T.cells.length,dn⟩)])))=K at *
 have gd:K.get (H.n+1) = .row true 0 1 [.int .i64 dk,.int .i64 da,.string dx,.int .i64 dn]:=by rw[← hK,Heap.get_set _ _ _ (by simp;omega),if_neg (by omega)];exact Heap.get_push_self _ _
 have nK:K.n=H.n+2:=by rw[← hK];rfl
 obtain⟨b',K',col',eA,gA,kA,he,ht⟩:=col_app repCel tf_cel (c:=7) (l:=T.cells) (by omega) h2.top h2.g3 (by omega) (a:=⟨T.words,dn⟩) (cs:=[.int .i64 T.words,.int .i64 dn]) rfl
 have st:=h2.step (by omega) kA he ht
 have gA':=st.1.1
 dsimp only at gA'
 have tA:=st.1.2
 have h0:col (H.n+1)=0:=h.top _ (by omega)
 have gd':=kA.at gd (by simp) (by omega)
 have nA:=kA.n
 have fin:=st.2 (w1:=v1) (w2:=v2) (w3 := .slice b' (T.cells.length+1) (T.cells.length+1)) (w4:=v4) (w5:=v5) (T':=intoV T ⟨dk,da,dx,dn⟩) (T.words+max dn 1) rfl rfl rfl rfl
  (col_other repLoc (by omega) kA he h2.g1) (col_other repInt (by omega) kA he h2.g2) gA (col_other repInt (by omega) kA he h2.g4) (col_other repInt (by omega) kA he h2.g5)
 have hw:=wrap64 (T.words+max dn 1) (by omega) (by omega)
 simp only[repCel]at eA
 simp[Tryz.f125,g0,c1,c1']
 refine region_quiet (by exact q_var0) ?_
 simp[g0,f1,hK]
 refine region_plan (by exact pl_var) ?_
 have nd:H.n+1<K.n:=by omega
 have nd':H.n+1<K'.n:=by omega
 simp[g2,gd,nd,l2,eA,gA',tA]
 refine region_quiet (by exact q_var2) ?_
 simp[builtin_max,gA',tA,gd',nd',show ¬H.n+1=tid by omega,hw,Heap.set_set]
 have k1:Same (fun i=>col i≠0) H K:=by rw[← hK];exact (Same.none kp).then_set (by simp;omega) (.inl (by have:=h.nc;omega)) _
 exact⟨rfl,⟨col',⟨_,_,_,_,_,_,_,_,fin⟩,fun i hi=>he i (by omega)⟩,(k1.then kA (fun i hi => .inl (by omega))).then_set tA (.inl (by have:=h.tc;omega)) _⟩
theorem shared_run (h:RTab H col tid nid pid rid v1 v2 v3 v4 v5 T)(d:Dcl)(hn:findP d.name T.names=none)(hr:findP d.name T.regions=none)(hw1:0≤T.words)(hw2:T.words+max d.n 1≤9223372036854775807) :
  Gives ((run Tryz.prog E).call 126 [.agg #[],.pointer (some ⟨tid,0,none⟩),.agg ⟨dsc d.kind d.at_ d.name d.n⟩] H)
   (RetInto H col tid (if 16≤T.cells.length then .error 16 else .ok { intoV T d with regions:=T.regions++[(d.name,(T.regions.length:Int))] })):=by
 have hp:=(h.keep (Same.push (fun _=>False) _ (.unit 147)) (fun _ h=>h.elim)).keep (Same.push (fun _=>False) _ (.row true 0 1 (dsc d.kind d.at_ d.name d.n))) (fun _ h=>h.elim)
 have kp:Same (fun _=>False) H ((H.push (.unit 147)).push (.row true 0 1 (dsc d.kind d.at_ d.name d.n))):=(Same.push _ _ _).then_push _
 obtain⟨o,K,e,hR⟩:=variable_run hE hp d hn hw1 hw2
 rw[c_shared hE,callB,bodyOf]
 unfold varP at hR
 have lt:=h.lt
 by_cases c1:16≤T.cells.length
 · rw[if_pos c1]at hR ⊢
   obtain⟨rfl,_,k⟩:=hR
   simp only[dsc]at e kp k
   simp[Tryz.f126,dsc,unit_field,e]
   exact⟨rfl,by omega,kp.trans k⟩
 · rw[if_neg c1]at hR ⊢
   obtain⟨rfl,⟨col',⟨nid',pid',rid',w1,w2,w3,w4,w5,hT⟩,he⟩,k⟩:=hR
   have h0:col (H.n+1)=0:=h.top _ (by omega)
   have gd:K.get (H.n+1) = .row true 0 1 (dsc d.kind d.at_ d.name d.n):=k.at (Heap.get_push_self _ _) (by simp) (fun x=>x h0)
   have g0:=hT.obj
   have lt':=hT.lt
   have f:=put_ints hT.rm (x:=d.name) hr T.regions.length
   have h3:=hT.set_regions (T.regions++[(d.name,(T.regions.length:Int))])
   have grm:=hT.rm
   have hl:=len_ints (l:=T.regions) grm
   have nk:=k.n
   simp at nk
   have ndd:H.n+1<K.n:=by omega
   have hreg:(intoV T d).regions=T.regions:=rfl
   simp only[hreg]at grm f
   simp only[dsc]at e gd kp k
   simp[Tryz.f126,dsc,unit_field,e]
   refine region_quiet (by exact q_sha0) ?_
   simp[g0,gd,hl,f,lt',ndd]
   have rc':=hT.rc
   refine⟨rfl,⟨col',⟨_,_,_,_,_,_,_,_,h3⟩,fun i hi=>he i (by simp;omega)⟩,?_⟩
   refine ((Same.none kp).trans k).then_set (by omega) ?_ _
   by_cases hlt:rid'<H.n
   · have:=he rid' (by simp;omega)
     exact .inl (by omega)
   · exact .inr (by omega)
theorem into_run (h:RTab H col tid nid pid rid v1 v2 v3 v4 v5 T)(d:Dcl)(hn:findP d.name T.names=none)(hr:findP d.name T.regions=none)(hw1:0≤T.words)(hw2:d.kind≠1→d.kind≠2→T.words+max d.n 1≤9223372036854775807)(hl1:T.totals.length≤100)(hl2:T.semas.length≤100) :
  Gives (callI Tryz.prog (run Tryz.prog E).call (some (kindV d.kind)) "signalbox/scope.into" [.pointer (some ⟨tid, 0, none⟩), .agg ⟨dsc d.kind d.at_ d.name d.n⟩] H) (RetInto H col tid (intoP T d)) := by
 by_cases h1:d.kind=1
 · rw[show kindV d.kind = .iface 143 (.agg #[]) by unfold kindV;rw[if_pos h1]]
   simp only[callI,m_class]
   exact class_run hE h d h1 hn hl1
 · by_cases h2:d.kind=2
   · rw[show kindV d.kind = .iface 144 (.agg #[]) by unfold kindV;rw[if_neg h1,if_pos h2]]
     simp only[callI,m_sema]
     exact sema_run hE h d h2 hn hl2
   · by_cases h3:d.kind=3
     · rw[show kindV d.kind = .iface 147 (.agg #[]) by unfold kindV;rw[if_neg h1,if_neg h2,if_pos h3]]
       simp only[callI,m_shared]
       have:=shared_run hE h d hn hr hw1 (hw2 h1 h2)
       unfold intoP
       rw[if_neg h1,if_neg h2,if_pos h3]
       exact this
     · rw[show kindV d.kind = .iface 145 (.agg #[]) by unfold kindV;rw[if_neg h1,if_neg h2,if_neg h3]]
       simp only[callI,m_variable]
       have:=variable_run hE h d hn hw1 (hw2 h1 h2)
       unfold intoP
       rw[if_neg h1,if_neg h2,if_neg h3]
       exact this
end
end Go.Vm.Scope
namespace Go.Vm
theorem Rep.L_get {α:Type}(ρ:Rep α){H:Heap}{S:Nat→Prop}:∀ {l:List α}{cs:List Value}(k:Nat)(hk:k<l.length),ρ.L H S l cs→ρ.R H S l[k] ((cs.drop (k * ρ.k)).take ρ.k)
 | [],_,k,hk,_=>absurd hk (Nat.not_lt_zero _)
 | a :: l, cs, 0, hk, h => by
  obtain⟨c1,c2,rfl,h1,h2⟩:=h
  have hl:=ρ.len h1
  simp only[Nat.zero_mul,List.drop_zero,List.getElem_cons_zero]
  rw[← hl,List.take_left']
  · exact h1
  · rfl
 | a :: l, cs, k + 1, hk, h => by
  obtain⟨c1,c2,rfl,h1,h2⟩:=h
  have hl:=ρ.len h1
  have e:(k+1) * ρ.k=c1.length+k * ρ.k:=by rw[hl,Nat.add_mul];omega
  rw[List.getElem_cons_succ,e,List.drop_append,List.drop_eq_nil_of_le (by omega),List.nil_append,show c1.length+k * ρ.k - c1.length=k * ρ.k by omega]
  exact Rep.L_get ρ k (by simpa using hk) h2
end Go.Vm
namespace Go.Vm.Scope
open Go Go.Proofs Go.Vm.Parse
def declsB (T:Tab):List Dcl→Except (Int × Int) Tab
 | [] => .ok T
 | d :: l => if knownP T d.name = true then .error (17, d.at_) else match intoP T d with
  | .error c => .error (c,d.at_)
  | .ok T'=>declsB T' l
def procsB (one:Tab→Prc→Except (Int × Int) Tab)(T:Tab):List Prc→Except (Int × Int) Tab
 | [] => .ok T
 | p :: l => match one T p with
  | .error c => .error c
  | .ok T'=>procsB one T' l
def tab0:Tab:=⟨[],[],[[]],[0],[],[],[],[],0⟩
def buildP (one:Tab→Prc→Except (Int × Int) Tab)(s:Src):Except (Int × Int) Tab :=
 match declsB tab0 s.decls with
 | .error c => .error c
 | .ok T=>procsB one T s.procs
structure TOK (T:Tab):Prop where
 t:T.totals.length≤6
 s:T.semas.length≤8
 c:T.cells.length≤16
 w0:0≤T.words
 w1:T.words≤T.cells.length * 1099511627776
 r:∀ x,findP x T.names=none→findP x T.regions=none
 q:T.procs.length≤12
 l:T.locals.length=T.procs.length+1
 p:T.params.length=T.procs.length+1
theorem tab0_ok:TOK tab0:=⟨by simp[tab0],by simp[tab0],by simp[tab0],by simp[tab0],by simp[tab0],fun x _=>rfl,by simp[tab0],by simp[tab0],by simp[tab0]⟩
theorem find_snoc {β:Type}(x y:ByteArray)(b:β):∀ l:List (ByteArray × β),findP x (l++[(y,b)])=none↔findP x l=none∧¬y=x
 | []=>by simp[findP]
 | e :: l => by
  simp only[List.cons_append,findP]
  by_cases h:e.1=x
  · simp[h]
  · simp only[if_neg h];exact find_snoc x y b l
theorem known_no {T:Tab}{x:ByteArray}(h:knownP T x=false):findP x T.names=none∧findP x T.procs=none:=by
 unfold knownP at h
 simp only[Bool.or_eq_false_iff,Option.isSome_eq_false_iff,Option.isNone_iff_eq_none]at h
 exact h
theorem TOK.into {T T':Tab}{d:Dcl}(h:TOK T)(hd:d.kind≠1→d.kind≠2→d.n≤1099511627776)(e:intoP T d = .ok T'):TOK T':=by
 obtain⟨h1,h2,h3,h4,h5,h6,h7,h8,h9⟩:=h
 have hv:d.kind≠1→d.kind≠2→¬16≤T.cells.length→TOK (intoV T d):=fun k1 k2 hc=>have hm:max d.n 1≤1099511627776∧1≤max d.n 1:=by have:=hd k1 k2;omega
  ⟨h1,h2,by simp[intoV];omega,by simp only[intoV];omega,by simp only[intoV,List.length_append,List.length_cons,List.length_nil];omega,fun x hx=>h6 x ((find_snoc _ _ _ _).1 hx).1,h7,h8,h9⟩
 unfold intoP at e
 split at e
 · split at e
   · cases e
   · split at e
     · cases e
     · cases e
       exact⟨by simp;omega,h2,h3,h4,h5,fun x hx=>h6 x ((find_snoc _ _ _ _).1 hx).1,h7,h8,h9⟩
 · split at e
   · split at e
     · cases e
     · split at e
       · cases e
       · cases e
         exact⟨h1,by simp;omega,h3,h4,h5,fun x hx=>h6 x ((find_snoc _ _ _ _).1 hx).1,h7,h8,h9⟩
   · rename_i k1 k2
     split at e
     · cases e
     · rename_i hc
       split at e
       · cases e
         obtain⟨a1,a2,a3,a4,a5,a6,a7,a8,a9⟩:=hv k1 k2 hc
         exact⟨a1,a2,a3,a4,a5,fun x hx=>(find_snoc _ _ _ _).2 ⟨a6 x hx,((find_snoc _ _ _ _).1 hx).2⟩,a7,a8,a9⟩
       · cases e;exact hv k1 k2 hc
end Go.Vm.Scope
namespace Go.Vm.Scope
open Go Go.Proofs Go.Vm.Parse
attribute [local simp] repCells_succ writeAt rd_Fr toList_beq gpe gpn spe gse gsn ne_r0 ne_l0 le_s0 ne_r1 ne_l1 lt_s1 le_s1 ne_r2 ne_l2 lt_s2 le_s2 ne_r3 ne_l3 lt_s3 le_s3 ne_r4 ne_l4 lt_s4 le_s4 ne_r5 ne_l5 lt_s5 le_s5 ne_r6 ne_l6 lt_s6 le_s6 ne_r7 ne_l7 lt_s7 le_s7
theorem q_bld0:quiet Tryz.prog (drawN Tryz.f13 0)=true:=by decide +kernel
theorem pl_bld1:planOf Tryz.prog (drawN Tryz.f13 1)=some [none,none,none,(some (0,1)),(some (0,1)),none,none]:=by decide +kernel
theorem q_bld2:quiet Tryz.prog (drawN Tryz.f13 2)=true:=by decide +kernel
theorem q_bld3:quiet Tryz.prog (drawN Tryz.f13 3)=true:=by decide +kernel
def TProcOK (E:Hooks)(one:Tab→Prc→Except (Int × Int) Tab):Prop:=∀ (T:Tab) (p:Prc) (col:Nat→Nat) (tid nid pid rid:Nat) (v1 v2 v3 v4 v5:Value) (cs:List Value) (K:Heap),RTab K col tid nid pid rid v1 v2 v3 v4 v5 T→TOK T→p.params.length+p.vars.length≤100000→repPrc.R K (fun i=>col i=0) p cs →
 Gives ((run Tryz.prog E).call 38 [.pointer (some ⟨tid,0,none⟩),.agg ⟨cs⟩] K) fun o K'=>Same (fun i=>col i≠0) K K'∧match one T p with
  | .error (c,a)=>o = .val (.agg ⟨[.int .i64 c,.int .i64 a]⟩)∧c≠0
  | .ok T'=>o = .val (.agg ⟨[.int .i64 0,.int .i64 0]⟩)∧TOK T'∧∃ col':Nat→Nat,(∃ nid pid rid v1 v2 v3 v4 v5,RTab K' col' tid nid pid rid v1 v2 v3 v4 v5 T')∧∀ i,i<K.n→col' i=col i
def RetB (H:Heap)(res:Except (Int × Int) Tab)(o:Out)(H':Heap):Prop :=
 Same (fun _=>False) H H'∧match res with
 | .error (c,a)=>o = .val (.tuple #[.pointer none,.agg ⟨[.int .i64 c,.int .i64 a]⟩])
 | .ok T=>∃ (col:Nat→Nat) (tid nid pid rid:Nat) (v1 v2 v3 v4 v5:Value),o = .val (.tuple #[.pointer (some ⟨tid,0,none⟩),.agg ⟨[.int .i64 0,.int .i64 0]⟩])∧RTab H' col tid nid pid rid v1 v2 v3 v4 v5 T∧(∀ i,i<H.n→col i=0)
structure BAt (H K:Heap)(sc:List Value)(col:Nat→Nat)(T:Tab):Prop where
 same:Same (fun _=>False) H K
 box:K.get H.n = .row true 0 1 sc
 res:K.get (H.n+1) = .row true 0 1 [.int .i64 0,.int .i64 0]
 tab:∃ nid pid rid v1 v2 v3 v4 v5,RTab K col (H.n+7) nid pid rid v1 v2 v3 v4 v5 T
 zero:∀ i,i≤H.n+1→col i=0
 ok:TOK T
theorem BAt.keep {H K K':Heap}{sc:List Value}{col:Nat→Nat}{T:Tab}{X:Nat→Prop}(h:BAt H K sc col T)(k:Same X K K')(hx:∀ i,X i→col i=0∧H.n+1<i):BAt H K' sc col T:=by
 obtain⟨nid,pid,rid,v1,v2,v3,v4,v5,ht⟩:=h.tab
 exact⟨h.same.then k (fun i hi => .inr (by have:=(hx i hi).2;omega)),k.at h.box (by simp) (fun e=>by have:=(hx _ e).2;omega),k.at h.res (by simp) (fun e=>by have:=(hx _ e).2;omega),⟨_,_,_,_,_,_,_,_,ht.keep k (fun i hi=>(hx i hi).1)⟩,h.zero,h.ok⟩
def DeclI (H:Heap)(sc:List Value)(ds:List Dcl)(res:Except (Int × Int) Tab)(m:Nat)(t:List Value)(K:Heap):Prop :=
 ∃ k T col,k≤ds.length∧m=ds.length - k∧rd t 21 = .int .i64 k∧declsB T (ds.drop k)=res∧BAt H K sc col T
def DeclJ (H:Heap)(sc:List Value)(res:Except (Int × Int) Tab)(t:List Value)(K:Heap):Prop :=
 ∃ T col,res = .ok T∧BAt H K sc col T∧t.length=62∧rd t 1 = .pointer (some ⟨H.n,0,none⟩)∧rd t 3 = .pointer (some ⟨H.n+1,0,none⟩)∧rd t 4 = .pointer (some ⟨H.n+7,0,none⟩)
def ProcI (one:Tab→Prc→Except (Int × Int) Tab)(H:Heap)(sc:List Value)(ps:List Prc)(res:Except (Int × Int) Tab)(m:Nat)(t:List Value)(K:Heap):Prop :=
 ∃ k T col,k≤ps.length∧m=ps.length - k∧rd t 48 = .int .i64 k∧procsB one T (ps.drop k)=res∧BAt H K sc col T
theorem prc_slices {H:Heap}{S:Nat→Prop}{p:Prc}{cs:List Value}(h:RPrc H S p cs):∃ a x a1 a2 a3 b1 b2 b3 c1 c2 c3,cs=pc5 a x (.slice a1 a2 a3) (.slice b1 b2 b3) (.slice c1 c2 c3):=by
 obtain⟨v1,v2,v3,rfl,h1,h2,h3⟩:=h
 obtain⟨b1,rfl⟩:=repIdn.G_slice h1
 obtain⟨b2,rfl⟩:=repIdn.G_slice h2
 obtain⟨b3,rfl⟩:=repStm.G_slice h3
 exact⟨_,_,_,_,_,_,_,_,_,_,_,rfl⟩
section
variable {E:Hooks} (hE:Plain E)
include hE
theorem build_run {one:Tab→Prc→Except (Int × Int) Tab}{H:Heap}{s:Src}{sc:List Value}(hP:s.procs=[]∨TProcOK E one)(hs:RSrc H (fun i=>i<H.n) s sc)(hn:∀ d∈s.decls,d.kind≠1→d.kind≠2→d.n≤1099511627776)(hq:∀ p∈s.procs,p.params.length+p.vars.length≤100000)(hl:s.decls.length≤100000)(hl2:s.procs.length≤100000) :
  Gives ((run Tryz.prog E).call 13 [.agg ⟨sc⟩] H) (RetB H (buildP one s)):=by
 obtain⟨w1,w2,w3,w4,rfl,hd,hp,hi,hb⟩:=hs
 obtain⟨b1,rfl⟩:=repDcl.G_slice hd
 obtain⟨b2,rfl⟩:=repPrc.G_slice hp
 obtain⟨b3,rfl⟩:=repItm.G_slice hi
 obtain⟨b4,rfl⟩:=repStm.G_slice hb
 rw[c_Build hE,callB,bodyOf]
 simp[Tryz.f13,sr5]
 refine loop_mid2 (DeclJ H (sr5 s.name (.slice b1 s.decls.length s.decls.length) (.slice b2 s.procs.length s.procs.length) (.slice b3 s.claims.length s.claims.length) (.slice b4 s.body.length s.body.length)) (declsB tab0 s.decls))
  (DeclI H (sr5 s.name (.slice b1 s.decls.length s.decls.length) (.slice b2 s.procs.length s.procs.length) (.slice b3 s.claims.length s.claims.length) (.slice b4 s.body.length s.body.length)) s.decls (declsB tab0 s.decls)) s.decls.length ?_ ?_ ?_
 · refine⟨0,tab0,fun i=>if i=H.n+7 then 1 else if i=H.n+2 then 2 else if i=H.n+3 then 3 else if i=H.n+4 then 4 else if i=H.n+5 then 5 else if i=H.n+6 then 6 else 0,Nat.zero_le _,by simp,by simp,by simp,?_⟩
   refine⟨?_,by simp[sr5,Heap.get_push],by simp[Heap.get_push],⟨H.n+1+1,H.n+1+1+1,H.n+1+1+1+1,.slice (some ⟨H.n+1+1+1+1+1,0,none⟩) 1 1,.slice (some ⟨H.n+1+1+1+1+1+1,0,none⟩) 1 1,nl,nl,nl,?_⟩,fun i hi=>by rw[if_neg (by omega),if_neg (by omega),if_neg (by omega),if_neg (by omega),if_neg (by omega),if_neg (by omega)],tab0_ok⟩
   · exact (((((((Same.push _ _ _).then_push _).then_push _).then_push _).then_push _).then_push _).then_push _).then_push _
   · exact⟨by simp[Heap.get_push,tab0],by simp,by simp[Heap.get_push,tab0,ents],by simp,by simp[Heap.get_push,tab0,ents],by simp,by simp[Heap.get_push,tab0,ents],by simp,
      .inr ⟨H.n+1+1+1+1+1,0,[.map none],rfl,by omega,by simp,by simp[Heap.get_push,repLoc],[.map none],[],rfl,.inl ⟨rfl,rfl⟩,rfl⟩,
      .inr ⟨H.n+1+1+1+1+1+1,0,[.int .i64 0],rfl,by omega,by simp,by simp[Heap.get_push,repInt],[.int .i64 0],[],rfl,rfl,rfl⟩,
      repCel.G_nil _ _,repInt.G_nil _ _,repInt.G_nil _ _,fun i hi=>by simp at hi;rw[if_neg (by omega),if_neg (by omega),if_neg (by omega),if_neg (by omega),if_neg (by omega),if_neg (by omega)]⟩
 · rintro m t K hk ⟨k,T,col,hkl,rfl,g21,hres,hB⟩
   have ht:t.length=62:=hk.1.trans (by simp[len_Bs])
   have hh:=hk.all [1,3,4,19,20] (by decide +kernel)
   simp at hh
   obtain⟨u1,u3,u4,u19,u20⟩:=hh
   have g0:=hB.box
   have gr:=hB.res
   obtain⟨nid,pid,rid,x1,x2,x3,x4,x5,hT⟩:=hB.tab
   have nK:=hB.same.n
   have trK:H.n+1<K.n:=Heap.lt_of_get gr (by simp)
   rcases Nat.lt_or_ge k s.decls.length with hlt | hge
   · have hb1:∃ id tl cs,b1=some ⟨id,0,none⟩∧id<H.n∧H.get id = .row true tl 4 cs∧cs.length=s.decls.length * 4∧(cs.drop (k * 4)).take 4=dsc s.decls[k].kind s.decls[k].at_ s.decls[k].name s.decls[k].n:=by
      rcases hd with⟨e1,e2⟩ | ⟨id,tl,cs,e1,_,e3,e4,e5⟩
      · rw[e2]at hlt;cases hlt
      · cases e1
        exact⟨id,tl,cs,rfl,e3,e4,repDcl.L_len e5,repDcl.L_get k hlt e5⟩
     obtain⟨id,tl,cs,rfl,hid,hrow,hcl,hget⟩:=hb1
     have hrK:=hB.same.at hrow (by simp) (fun h=>h)
     have hkl':(k:Int)<s.decls.length:=by omega
     have hdrop:s.decls.drop k=s.decls[k] :: s.decls.drop (k+1):=List.drop_eq_getElem_cons hlt
     have hdn:=hn s.decls[k] (List.getElem_mem hlt)
     generalize hdk:s.decls[k]=d at *
     rw[hdrop,declsB]at hres
     have hB1:=hB.keep (Same.push (fun _=>False) K (.row true 0 1 (dsc d.kind d.at_ d.name d.n))) (fun _ h=>h.elim)
     obtain⟨nid,pid,rid,x1,x2,x3,x4,x5,hT1⟩:=hB1.tab
     obtain⟨K2,e2,k2⟩:=known_run hE hT1 d.name
     have hB2:=hB1.keep k2 (fun _ h=>h.elim)
     have gd2:K2.get K.n = .row true 0 1 (dsc d.kind d.at_ d.name d.n):=k2.at (Heap.get_push_self _ _) (by simp) (fun h=>h)
     have n2:=k2.n
     simp at n2
     have g02:=hB2.box
     have gr2:=hB2.res
     have tr2:H.n+1<K2.n:=by omega
     have td2:K.n<K2.n:=by omega
     simp only[dsc]at hget e2 gd2
     by_cases hkn:knownP T d.name=true
     · rw[if_pos hkn]at hres
       unfold buildP
       rw[← hres]
       simp[ht,u1,u3,u4,u19,u20,g21,hlt,hkl',hrK,hcl,hget,show k * 4+4≤s.decls.length * 4 by omega,e2,hkn]
       refine region_quiet (by exact q_bld0) ?_
       simp[ht,u1,u3,u4,gd2,gr2,tr2]
       exact⟨hB2.same.then_set (by omega) (.inr (by omega)) _,rfl⟩
     · rw[if_neg hkn]at hres
       have hkn':knownP T d.name=false:=by simpa using hkn
       obtain⟨q1,q2⟩:=known_no hkn'
       obtain⟨nid2,pid2,rid2,z1,z2,z3,z4,z5,hT2⟩:=hB2.tab
       have ok:=hB2.ok
       have eo:=of_run hE d.kind K2
       obtain⟨o,K3,e3,hR⟩:=into_run hE hT2 d q1 (ok.r _ q1) ok.w0 (fun u1 u2=>by have:=ok.w1;have:=ok.c;have:=hdn u1 u2;omega) (by have:=ok.t;omega) (by have:=ok.s;omega)
       simp only[dsc]at e3
       simp[ht,u1,u3,u4,u19,u20,g21,hlt,hkl',hrK,hcl,hget,show k * 4+4≤s.decls.length * 4 by omega,e2,hkn']
       refine region_plan (by exact pl_bld1) ?_
       cases hinto:intoP T d with
       | error c =>
        rw[hinto]at hR hres
        obtain⟨rfl,hc0,k3⟩:=hR
        have hB3:=hB2.keep k3 (fun _ h=>h.elim)
        have gd3:=k3.at gd2 (by simp) (fun h=>h)
        have gr3:=hB3.res
        have n3:=k3.n
        have tr3:H.n+1<K3.n:=by omega
        unfold buildP
        rw[← hres]
        simp[ht,u1,u3,u4,gd2,td2,eo,e3,hc0]
        refine region_quiet (by exact q_bld2) ?_
        simp[ht,u1,u3,u4,gd3,gr3,tr3]
        exact⟨hB3.same.then_set (by omega) (.inr (by omega)) _,rfl⟩
       | ok T' =>
        rw[hinto]at hR hres
        obtain⟨rfl,⟨col',hT',he⟩,k3⟩:=hR
        have z2:=hB2.zero
        have hB3:BAt H K3 (sr5 s.name (.slice (some ⟨id,0,none⟩) s.decls.length s.decls.length) (.slice b2 s.procs.length s.procs.length) (.slice b3 s.claims.length s.claims.length) (.slice b4 s.body.length s.body.length)) col' T' :=
         ⟨hB2.same.then k3 (fun i hi => .inr (by rcases Nat.lt_or_ge i H.n with h | h;exact absurd (z2 i (by omega)) hi;exact h)),k3.at g02 (by simp) (fun h=>h (z2 _ (by omega))),k3.at gr2 (by simp) (fun h=>h (z2 _ (by omega))),hT',fun i hi=>by rw[he i (by omega)];exact z2 i hi,ok.into hdn hinto⟩
        have hw:=wrap64 ((k:Int)+1) (by omega) (by omega)
        simp[ht,u1,u3,u4,g21,gd2,td2,eo,e3,hw]
        exact⟨s.decls.length - (k+1),by omega,k+1,T',col',by omega,rfl,by simp[ht],hres,hB3⟩
   · have hke:k=s.decls.length:=by omega
     subst hke
     rw[List.drop_length,declsB]at hres
     simp[ht,u1,u3,u4,u19,u20,g21]
     exact⟨T,col,hres.symm,hB,by simp[ht],by simp[ht,u1],by simp[ht,u3],by simp[ht,u4]⟩
 · rintro t K hk ⟨T0,col0,hT0,hB0,ht,u1,u3,u4⟩
   have g0:=hB0.box
   simp only[sr5]at g0
   unfold buildP
   rw[hT0]
   simp only[]
   simp[ht,u1,u3,u4,g0]
   refine loop_wp (ProcI one H (sr5 s.name (.slice b1 s.decls.length s.decls.length) (.slice b2 s.procs.length s.procs.length) (.slice b3 s.claims.length s.claims.length) (.slice b4 s.body.length s.body.length)) s.procs (procsB one T0 s.procs)) s.procs.length ?_ ?_
   · exact⟨0,T0,col0,Nat.zero_le _,by simp,by simp[ht],by simp,hB0⟩
   rintro m t' K hk ⟨k,T,col,hkl,rfl,g48,hres,hB⟩
   have ht':t'.length=62:=hk.1.trans (by simp[ht])
   have hh:=hk.all [1,3,4,46,47] (by decide +kernel)
   simp[ht,u1,u3,u4]at hh
   obtain⟨y1,y3,y4,y46,y47⟩:=hh
   have gr:=hB.res
   have nK:=hB.same.n
   have trK:H.n+1<K.n:=Heap.lt_of_get gr (by simp)
   have z:=hB.zero
   rcases Nat.lt_or_ge k s.procs.length with hlt | hge
   · have hP:=hP.resolve_left (fun e=>by rw[e]at hlt;cases hlt)
     have hb2:∃ id tl cs,b2=some ⟨id,0,none⟩∧id<H.n∧H.get id = .row true tl 5 cs∧cs.length=s.procs.length * 5∧RPrc H (fun i=>i<H.n∧i≠id) s.procs[k] ((cs.drop (k * 5)).take 5):=by
      rcases hp with⟨e1,e2⟩ | ⟨id,tl,cs,e1,_,e3,e4,e5⟩
      · rw[e2]at hlt;cases hlt
      · cases e1
        exact⟨id,tl,cs,rfl,e3,e4,repPrc.L_len e5,repPrc.L_get k hlt e5⟩
     obtain⟨id,tl,cs,rfl,hid,hrow,hcl,hget⟩:=hb2
     have hrK:=hB.same.at hrow (by simp) (fun h=>h)
     have hkl':(k:Int)<s.procs.length:=by omega
     have hdrop:s.procs.drop k=s.procs[k] :: s.procs.drop (k+1):=List.drop_eq_getElem_cons hlt
     have hpq:=hq s.procs[k] (List.getElem_mem hlt)
     generalize hdk:s.procs[k]=p at *
     rw[hdrop,procsB]at hres
     obtain⟨p1,p2,p3,p4,p5,p6,p7,p8,p9,p10,p11,hc⟩:=prc_slices hget
     rw[hc]at hget
     have hB1:=hB.keep (Same.push (fun _=>False) K (.row true 0 1 (pc5 p1 p2 (.slice p3 p4 p5) (.slice p6 p7 p8) (.slice p9 p10 p11)))) (fun _ h=>h.elim)
     obtain⟨nid,pid,rid,x1,x2,x3,x4,x5,hT1⟩:=hB1.tab
     have hget1:repPrc.R (K.push (.row true 0 1 (pc5 p1 p2 (.slice p3 p4 p5) (.slice p6 p7 p8) (.slice p9 p10 p11)))) (fun i=>col i=0) p (pc5 p1 p2 (.slice p3 p4 p5) (.slice p6 p7 p8) (.slice p9 p10 p11)) :=
      repPrc.move (hB.same.then_push _) (fun i hi _=>⟨z i (by omega),fun h=>h⟩) _ _ hget
     obtain⟨o,K2,e2,k2,hR⟩:=hP T p col (H.n+7) nid pid rid x1 x2 x3 x4 x5 _ _ hT1 hB1.ok hpq hget1
     have n2:=k2.n
     simp at n2
     have g02:=k2.at hB1.box (by simp) (fun h=>h (z _ (by omega)))
     have gr2:=k2.at hB1.res (by simp) (fun h=>h (z _ (by omega)))
     have s2:Same (fun _=>False) H K2:=hB1.same.then k2 (fun i hi => .inr (by rcases Nat.lt_or_ge i H.n with h | h;exact absurd (z i (by omega)) hi;exact h))
     have tr2:H.n+1<K2.n:=by omega
     simp only[pc5]at hc e2
     cases hone:one T p with
     | error q =>
      obtain⟨c,a⟩:=q
      rw[hone]at hR hres
      obtain⟨rfl,hc0⟩:=hR
      simp only at hres
      rw[← hres]
      simp[ht',y1,y3,y4,y46,y47,g48,hlt,hkl',hrK,hcl,hc,show k * 5+5≤s.procs.length * 5 by omega,e2,hc0]
      refine region_quiet (by exact q_bld3) ?_
      simp[ht',y1,y3,y4,gr2,tr2]
      exact⟨(s2.then_push _).then_set (by simp;omega) (.inr (by omega)) _,rfl⟩
     | ok T' =>
      rw[hone]at hR hres
      obtain⟨rfl,hok,col',hT',he⟩:=hR
      have hw:=wrap64 ((k:Int)+1) (by omega) (by omega)
      have hB3:BAt H (K2.push (.row true 0 1 [.int .i64 0,.int .i64 0])) (sr5 s.name (.slice b1 s.decls.length s.decls.length) (.slice (some ⟨id,0,none⟩) s.procs.length s.procs.length) (.slice b3 s.claims.length s.claims.length) (.slice b4 s.body.length s.body.length)) col' T' :=
       BAt.keep ⟨s2,g02,gr2,hT',fun i hi=>by rw[he i (by simp;omega)];exact z i hi,hok⟩ (Same.push (fun _=>False) _ _) (fun _ h=>h.elim)
      simp[ht',y1,y3,y4,y46,y47,g48,hlt,hkl',hrK,hcl,hc,show k * 5+5≤s.procs.length * 5 by omega,e2,hw]
      exact⟨s.procs.length - (k+1),by omega,k+1,T',col',by omega,rfl,by simp[ht'],hres,hB3⟩
   · have hke:k=s.procs.length:=by omega
     subst hke
     rw[List.drop_length,procsB]at hres
     rw[← hres]
     simp[ht',y1,y3,y4,y46,y47,g48,gr,trK]
     obtain⟨nid,pid,rid,x1,x2,x3,x4,x5,hT1⟩:=hB.tab
     exact⟨hB.same.then_set trK (.inr (by omega)) _,col,H.n+7,_,_,_,_,_,_,_,_,rfl,hT1.keep (Same.set (X:=fun i=>i=H.n+1) K trK rfl _) (fun i hi=>by subst hi;exact z _ (by omega)),fun i hi=>z i (by omega)⟩
end
end Go.Vm.Scope
namespace Go.Vm
variable {α:Type}
theorem Rep.L_append (ρ:Rep α){H:Heap}{S:Nat→Prop}:∀ {l m:List α}{cs ds:List Value},ρ.L H S l cs→ρ.L H S m ds→ρ.L H S (l++m) (cs++ds)
 | [],m,cs,ds,h,k=>by simp only[Rep.L]at h;subst h;exact k
 | a :: l, m, cs, ds, h, k => by
  obtain⟨c1,c2,rfl,h1,h2⟩:=h
  exact⟨c1,c2++ds,by simp,h1,Rep.L_append ρ h2 k⟩
theorem Rep.L_weak (ρ:Rep α){H:Heap}{S S':Nat→Prop}(h:∀ i,S i→S' i){l:List α}{cs:List Value}(k:ρ.L H S l cs):ρ.L H S' l cs :=
 ρ.L_move (Same.refl (fun _=>False) H) (fun i hi _=>⟨h i hi,fun h=>h⟩) k
theorem Rep.G_cells (ρ:Rep α){H:Heap}{S:Nat→Prop}{v:Value}{l:List α}(h:ρ.G H S v l):∃ cs,ρ.L H S l cs∧cellsOf H ρ.k l.length v=some cs∧∃ b,v = .slice b l.length l.length:=by
 rcases h with⟨rfl,rfl⟩ | ⟨id,tl,cs,rfl,h2,h3,h4,h5⟩
 · exact⟨[],rfl,by simp,none,rfl⟩
 · have hl:=ρ.L_len h5
   refine⟨cs,ρ.L_weak (fun i hi=>hi.1) h5,?_,_,rfl⟩
   simp[h4,hl]
   rw[← hl,List.take_length]
theorem Rep.G_some (ρ:Rep α){H:Heap}{S:Nat→Prop}{v:Value}{l:List α}(h:ρ.G H S v l)(hl:0<l.length):∃ id,v = .slice (some ⟨id,0,none⟩) l.length l.length∧S id∧id<H.n:=by
 rcases h with⟨rfl,rfl⟩ | ⟨id,tl,cs,rfl,h2,h3,h4,h5⟩
 · cases hl
 · exact⟨id,rfl,h3,Heap.lt_of_get h4 (by simp)⟩
theorem room_app {P:Program}{t k:Nat}(T:TF P t k){H:Heap}{r tl N m n:Nat}{cs new:List Value}{v:Value}(hg:H.get r = .row true tl k cs)(hl:cs.length=N * k)(hv:∃ b,v = .slice b n n)(hc:cellsOf H k n v=some new)(hnew:new.length=n * k)(hm:m+n≤N)(hN:N≤100000) :
  ∃ H' cs',exAppend P [t,t] (.slice (some ⟨r,0,none⟩) m N) v H=some (.slice (some ⟨r,0,none⟩) (m+n) N,H')∧H'.get r = .row true tl k cs'∧cs'.length=N * k∧cs'.take ((m+n) * k)=cs.take (m * k)++new∧Same (·=r) H H':=by
 obtain⟨b,rfl⟩:=hv
 obtain⟨e,bb,z,h1,h2,h3,h4,h5,h6,h7,h8⟩:=T.ok
 have hb:(m+n+200) * bb≤140737488355328:=by
  have:(m+n+200) * bb≤(100000+200) * 1000:=Nat.mul_le_mul (by omega) h4
  omega
 have hr:=Heap.lt_of_get hg (by simp)
 have hmk:(m+n) * k≤N * k:=Nat.mul_le_mul_right _ hm
 have hmk2:(m+n) * k=m * k+n * k:=Nat.add_mul _ _ _
 by_cases h0:n=0
 · subst h0
   have:new=[]:=List.eq_nil_of_length_eq_zero (by omega)
   subst this
   refine⟨H,cs,?_,hg,hl,by simp,Same.refl _ _⟩
   simp only[Nat.add_zero]at hb
   simp only[exAppend,h1,h8,exAppendRow,h2,h3,h5,lenA,hc]
   simp[h7,h6]
   omega
 · refine⟨H.set r (.row true tl k (writeAt cs (m * k) new)),writeAt cs (m * k) new,?_,Heap.get_set_self _ _ hr,?_,?_,Same.set (X:=(·=r)) H hr rfl _⟩
   · simp only[exAppend,h1,h8,exAppendRow,h2,h3,h5,lenA,hc,hg]
     simp[h7,h6,h0,hm,hb,hl,hmk]
     omega
   · unfold writeAt
     simp only[List.length_append,List.length_take,List.length_drop,hnew,hl]
     omega
   · unfold writeAt
     rw[← List.append_assoc,List.take_append_of_le_length (by simp only[List.length_append,List.length_take,hnew,hl];omega),List.take_of_length_le (by simp only[List.length_append,List.length_take,hnew,hl];omega)]
theorem Rep.G_appAt (ρ:Rep α){P:Program}{t:TypeId}(T:TF P t ρ.k){H:Heap}{S:Nat→Prop}{v:Value}{l:List α}(h:ρ.G H S v l){r xid xt xe xc:Nat}{xo:Bool}(hr:r<H.n)(hS:¬S r)(hl:l.length≤100000){a:α}{c:List Value}(hx:H.get xid = .row xo xt xe c)(ha:ρ.R H (fun i=>S i∧¬vid v i) a c) :
  ∃ H',exAppendAt P [t,t] v (.slice (some ⟨xid,0,none⟩) 1 xc) r H=some (.slice (some ⟨r,0,none⟩) (l.length+1) (l.length+1),H')∧ρ.G H' (fun i=>S i∨i=r) (.slice (some ⟨r,0,none⟩) (l.length+1) (l.length+1)) (l++[a])∧Same (fun i=>vid v i∨i=r) H H'∧H'.n=H.n:=by
 have hc:=ρ.len ha
 obtain⟨e,b,z,h1,h2,h3,h4,h5,h6,h7,h8⟩:=T.ok
 have hb:(l.length+1+200) * b≤140737488355328:=by
  have:(l.length+1+200) * b≤(100000+1+200) * 1000:=Nat.mul_le_mul (by omega) h4
  omega
 have hc0:cellsOf H ρ.k 1 (.slice (some ⟨xid,0,none⟩) 1 xc)=some c:=by
  simp[hx,hc]
  exact List.take_of_length_le (by omega)
 rcases h with⟨rfl,rfl⟩ | ⟨id,tl,cs,rfl,h2',h3',h4',h5'⟩
 · refine⟨H.pushAt r (.row true 1 ρ.k c),?_,?_,?_,?_⟩
   · simp only[exAppendAt,h1,h8,exAppendRow,h2,h3,h5,lenA,hc0]
     simp at hb
     simp[h7,h6,hb]
   · rw[Heap.pushAt_lt hr]
     refine .inr ⟨r,1,c,by simp,by omega,.inr rfl,Heap.get_set_self _ _ hr,c,[],by simp,?_,rfl⟩
     exact ρ.move (Same.set (X:=(·=r)) H hr rfl _) (fun i hi _=>⟨⟨.inl hi.1,fun e=>hS (e ▸ hi.1)⟩,fun e=>hS (e ▸ hi.1)⟩) _ _ ha
   · rw[Heap.pushAt_lt hr];exact Same.set H hr (.inr rfl) _
   · rw[Heap.pushAt_lt hr];rfl
 · have hid:=Heap.lt_of_get h4' (by simp)
   have hir:id≠r:=fun e=>hS (e ▸ h3')
   have hcl:=ρ.L_len h5'
   have hne:¬l.length+1≤l.length:=by omega
   have mvL:∀ {H':Heap},Same (fun i=>i=id∨i=r) H H'→ρ.L H' (fun i=>(S i∨i=r)∧i≠r) l cs:=fun k=>ρ.L_move k (fun i hi _=>⟨⟨.inl hi.1,fun e=>hS (e ▸ hi.1)⟩,fun e=>e.elim hi.2 (fun e=>hS (e ▸ hi.1))⟩) h5'
   have mvR:∀ {H':Heap},Same (fun i=>i=id∨i=r) H H'→ρ.R H' (fun i=>(S i∨i=r)∧i≠r) a c:=fun k=>ρ.move k (fun i hi _=>⟨⟨.inl hi.1,fun e=>hS (e ▸ hi.1)⟩,fun e=>e.elim (fun e=>hi.2 e.symm) (fun e=>hS (e ▸ hi.1))⟩) _ _ ha
   rcases (show tl=0∨tl=1 by omega)with rfl | rfl
   · have k:Same (fun i=>i=id∨i=r) H (H.set r (.row true 1 ρ.k (cs++c))):=Same.set H hr (.inr rfl) _
     refine⟨H.set r (.row true 1 ρ.k (cs++c)),?_,?_,k.mono fun i hi=>hi.elim (fun e => .inl e.symm) .inr,rfl⟩
     · simp only[exAppendAt,h1,h8,exAppendRow,h2,h3,h5,lenA,hc0,h4']
       simp[h7,h6,hb,show l.length+1≤140737488355328 by omega,hne,hcl,Heap.pushAt_lt hr]
       rw[← hcl,List.take_length]
     · exact .inr ⟨r,1,cs++c,by simp,by omega,.inr rfl,Heap.get_set_self _ _ hr,ρ.L_snoc (mvR k) (mvL k)⟩
   · have k:Same (fun i=>i=id∨i=r) H ((H.set id .dead).set r (.row true 1 ρ.k (cs++c))):=(Same.set H hid (.inl rfl) _).trans (Same.set (H.set id .dead) hr (.inr rfl) _)
     refine⟨(H.set id .dead).set r (.row true 1 ρ.k (cs++c)),?_,?_,k.mono fun i hi=>hi.elim (fun e => .inl e.symm) .inr,rfl⟩
     · simp only[exAppendAt,h1,h8,exAppendRow,h2,h3,h5,lenA,hc0,h4']
       simp[h7,h6,hb,show l.length+1≤140737488355328 by omega,hne,hcl,Heap.pushAt_lt (H:=H.set id .dead) (r:=r) hr]
       rw[← hcl,List.take_length]
     · exact .inr ⟨r,1,cs++c,by simp,by omega,.inr rfl,Heap.get_set_self (H.set id .dead) _ hr,ρ.L_snoc (mvR k) (mvL k)⟩
end Go.Vm
namespace Go.Vm.Scope
open Go Go.Proofs Go.Vm.Parse
attribute [local simp] repCells_succ writeAt rd_Fr toList_beq gpe gpn spe gse gsn ne_r0 ne_l0 le_s0 ne_r1 ne_l1 lt_s1 le_s1 ne_r2 ne_l2 lt_s2 le_s2 ne_r3 ne_l3 lt_s3 le_s3 ne_r4 ne_l4 lt_s4 le_s4 ne_r5 ne_l5 lt_s5 le_s5 ne_r6 ne_l6 lt_s6 le_s6 ne_r7 ne_l7 lt_s7 le_s7
theorem tf_idn8:TF Tryz.prog 45 2:=⟨_,_,_,by simp,by simp,by simp;rfl,by omega,by simp;rfl,rfl,by omega,rfl⟩
theorem idn_L {H H':Heap}{S S':Nat→Prop}:∀ {l:List Idn}{cs:List Value},repIdn.L H S l cs→repIdn.L H' S' l cs
 | [],cs,h=>h
 | a :: l, cs, h => by
  obtain⟨c1,c2,e,h1,h2⟩:=h
  exact⟨c1,c2,e,h1,idn_L h2⟩
theorem rep_len (c:List Value):∀ n,(repCells n c).length=n * c.length
 | 0=>by simp[repCells]
 | n+1=>by simp[repCells,rep_len c n,Nat.add_mul]<;>omega
theorem cellsOf_same {H H':Heap}{X:Nat→Prop}(k:Same X H H'){n m:Nat}{v:Value}{cs:List Value}(h:cellsOf H n m v=some cs)(hx:∀ i,vid v i→i<H.n→¬X i):cellsOf H' n m v=some cs:=by
 cases v with
 | slice b l c =>
  cases b with
  | none=>exact h
  | some q =>
   obtain⟨id,off,p⟩:=q
   cases p with
   | some _=>exact h
   | none =>
    simp only[cellsOf]at h ⊢
    cases hg:H.get id with
    | row own tl es ds =>
     have hlt:=Heap.lt_of_get hg (by simp)
     rw[k.get id hlt (hx id rfl hlt),hg]
     rw[hg]at h
     exact h
    | _=>rw[hg]at h;cases h
 | string s=>exact h
 | _=>cases h
section
variable {E:Hooks} (hE:Plain E)
include hE
theorem c_Concat (args:List Value)(H:Heap):(run Tryz.prog E).call 65 args H=callB Tryz.prog E Tryz.f65 args H:=call_B Tryz.func65 rfl (by decide +kernel) (hE.no _ rfl rfl) args H
theorem c_GrowI (args:List Value)(H:Heap):(run Tryz.prog E).call 81 args H=callB Tryz.prog E Tryz.f81 args H:=call_B Tryz.func81 rfl (by decide +kernel) (hE.no _ rfl rfl) args H
theorem concat_run {H:Heap}{a:Nat}{S:Nat→Prop}{v1 v2:Value}{xs ys:List Idn}(h:H.get a = .row true 0 1 [v1,v2])(h1:repIdn.G H S v1 xs)(h2:repIdn.G H S v2 ys)(hl:xs.length+ys.length≤100000) :
  ∃ v H',(run Tryz.prog E).call 65 [.slice (some ⟨a,0,none⟩) 2 2] H=some (.val v,H')∧repIdn.G H' (fun i=>H.n≤i) v (xs++ys)∧Same (fun _=>False) H H':=by
 obtain⟨cs1,c1,k1,b1,rfl⟩:=repIdn.G_cells h1
 obtain⟨cs2,c2,k2,b2,rfl⟩:=repIdn.G_cells h2
 have n1:=repIdn.L_len c1
 have n2:=repIdn.L_len c2
 by_cases h0:xs.length+ys.length=0
 · obtain⟨rfl,rfl⟩:xs=[]∧ys=[]:=⟨List.eq_nil_of_length_eq_zero (by omega),List.eq_nil_of_length_eq_zero (by omega)⟩
   have e1:∀ b,cellsOf H repIdn.k 0 (.slice b 0 0)=some []→exAppend Tryz.prog [45,45] (.slice none 0 0) (.slice b 0 0) H=some (.slice none 0 0,H):=by
    intro b hs
    obtain⟨e,bb,z,h1,h2,h3,h4,h5,h6,h7,h8⟩:=tf_idn8.ok
    simp only[repIdn]at hs
    simp only[exAppend,h1,h8,exAppendRow,h2,h3,h5,lenA,hs]
    simp[h6,h7]
    omega
   have z1:cs1=[]:=List.eq_nil_of_length_eq_zero (by simpa using n1)
   have z2:cs2=[]:=List.eq_nil_of_length_eq_zero (by simpa using n2)
   subst z1
   subst z2
   have e2:=e1 _ k1
   have e3:=e1 _ k2
   have key:Gives ((run Tryz.prog E).call 65 [.slice (some ⟨a,0,none⟩) 2 2] H) fun o H'=>o = .val (.slice none 0 0)∧H'=H:=by
    rw[c_Concat hE,callB,bodyOf]
    simp at h
    simp[Tryz.f65,code_loop,h,e2,e3,c_GrowI hE,callB,bodyOf,Tryz.f81,exCap,exLen,Tryz.underlying45,wrap64 0 (by omega) (by omega),wrap64 1 (by omega) (by omega),wrap64 2 (by omega) (by omega)]
   obtain⟨o,H',e,rfl,rfl⟩:=key
   exact⟨_,_,e,.inl ⟨rfl,rfl⟩,Same.refl _ _⟩
 · have f0:=Same.push (fun _=>False) H (.row true 1 2 (repCells (xs.length+ys.length) [.int .i64 0,.string ByteArray.empty]))
   have hz:(repCells (xs.length+ys.length) [.int .i64 0,.string ByteArray.empty]).length=(xs.length+ys.length) * 2:=by rw[rep_len];rfl
   have q1:cellsOf (H.push (.row true 1 2 (repCells (xs.length+ys.length) [.int .i64 0,.string ByteArray.empty]))) 2 xs.length (.slice b1 xs.length xs.length)=some cs1:=cellsOf_same f0 k1 (fun i _ _ h=>h)
   obtain⟨H1,ds1,e1,g1,m1,t1,f1⟩:=room_app tf_idn8 (r:=H.n) (m:=0) (N:=xs.length+ys.length) (Heap.get_push_self H _) hz ⟨_,rfl⟩ q1 n1 (by omega) hl
   have q2:cellsOf H1 2 ys.length (.slice b2 ys.length ys.length)=some cs2:=cellsOf_same f1 (cellsOf_same f0 k2 (fun i _ _ h=>h)) (fun i hi _ e=>by have:=(repIdn.G_lt h2 hi).1;omega)
   obtain⟨H2,ds2,e2,g2,m2,t2,f2⟩:=room_app tf_idn8 (r:=H.n) (m:=xs.length) (N:=xs.length+ys.length) g1 m1 ⟨_,rfl⟩ q2 n2 (Nat.le_refl _) hl
   have ha:a<H.n:=Heap.lt_of_get h (by simp)
   have ha1:H1.get a = .row true 0 1 [.slice b1 xs.length xs.length,.slice b2 ys.length ys.length]:=f1.at (f0.at h (by simp) (fun h=>h)) (by simp) (by omega)
   have key:Gives ((run Tryz.prog E).call 65 [.slice (some ⟨a,0,none⟩) 2 2] H) fun o H'=>o = .val (.slice (some ⟨H.n,0,none⟩) (xs.length+ys.length) (xs.length+ys.length))∧H'=H2:=by
    rw[c_Concat hE,callB,bodyOf]
    simp only[Nat.zero_add]at e1
    have e0:exAppend Tryz.prog [45,3] (.slice none 0 0) (.int .i64 ((xs.length:Int)+ys.length)) H=some (.slice (some ⟨H.n,0,none⟩) (xs.length+ys.length) (xs.length+ys.length),H.push (.row true 1 2 (repCells (xs.length+ys.length) [.int .i64 0,.string ByteArray.empty]))):=by
     simp[exAppend,exAppendMake,Tryz.underlying3,show 0≤(xs.length:Int)+ys.length by omega,show (xs.length:Int)+ys.length≤1000000 by omega,show ¬((xs.length:Int)+ys.length=0) by omega,show ((xs.length:Int)+ys.length).toNat=xs.length+ys.length by omega]
    have e3:exSlice Tryz.prog 45 (.slice none 0 0) none (some (.int .i64 0)) none H=some (.slice none 0 0,H):=by simp[exSlice,Tryz.underlying45]
    simp[Tryz.f65,code_loop,h,e0,e1,e2,e3,ha1,Nat.ne_of_lt ha,Heap.get_push_lt _ _ ha,c_GrowI hE,callB,bodyOf,Tryz.f81,exCap,exLen,Tryz.underlying45,wrap64 0 (by omega) (by omega),wrap64 1 (by omega) (by omega),wrap64 2 (by omega) (by omega),wrap64 (xs.length:Int) (by omega) (by omega),wrap64 ((xs.length:Int)+ys.length) (by omega) (by omega),
     show ¬(xs.length:Int)<0 by omega,show ¬(xs.length:Int)+ys.length<0 by omega,show 0<(xs.length:Int)+ys.length by omega,show 0≤(xs.length:Int)+ys.length by omega,cutA]
   obtain⟨o,H',e,rfl,rfl⟩:=key
   have k02:Same (fun _=>False) H H':=(f0.then f1 (fun i hi => .inr (by omega))).then f2 (fun i hi => .inr (by omega))
   refine⟨_,_,e,.inr ⟨H.n,1,ds2,by simp,by omega,Nat.le_refl _,g2,?_⟩,k02⟩
   have hd:ds2=cs1++cs2:=by
    simp only[Nat.zero_add,Nat.zero_mul,List.take_zero,List.nil_append]at t1
    rw[List.take_of_length_le (by omega)]at t2
    rw[t2,t1]
   rw[hd]
   exact repIdn.L_append (idn_L c1) (idn_L c2)
end
def localsP (np:Nat):List (ByteArray × Int)→Nat→List Idn→Except (Int × Int) (List (ByteArray × Int))
 | acc,_,[] => .ok acc
 | acc,i,x :: xs=>if (findP x.name acc).isSome=true then .error (17,x.at_)else if (i<np∧4≤i)∨8≤i then .error (16,x.at_)else localsP np (acc++[(x.name,(i:Int))]) (i+1) xs
def procT (T:Tab)(p:Prc)(l:List (ByteArray × Int)):Tab:={ T with procs:=T.procs++[(p.name,(T.locals.length:Int))],locals:=T.locals++[l],params:=T.params++[(p.params.length:Int)] }
def procB (T:Tab)(p:Prc):Except (Int × Int) Tab :=
 if knownP T p.name=true then .error (17,p.at_)
 else if 12≤T.procs.length then .error (16,p.at_)
 else match localsP p.params.length [] 0 (p.params++p.vars)with
  | .error e => .error e
  | .ok l => .ok (procT T p l)
theorem tf_loc9:TF Tryz.prog 81 1:=⟨_,_,_,by simp,by simp,by simp;rfl,by omega,by simp;rfl,rfl,by omega,rfl⟩
theorem q_proc0:quiet Tryz.prog (drawN Tryz.f38 0)=true:=by decide +kernel
theorem no_proc1:planOf Tryz.prog (drawN Tryz.f38 1)=none:=by decide +kernel
theorem late_proc1:lateAt (drawN Tryz.f38 1)=none:=by decide +kernel
theorem pre_proc1:preOf (drawN Tryz.f38 1)=[0,0,0,4,12,28,0,64,252,0,512,1536,3584,0,8192,24576,57344,131068,262141,524285,1048573,2097151,4194303,8388607]:=by decide +kernel
theorem ok_proc1:freeOK (drawN Tryz.f38 1) [0,0,0,4,12,28,0,64,252,0,512,1536,3584,0,8192,24576,57344,131068,262141,524285,1048573,2097151,4194303,8388607]=true:=by decide +kernel
theorem need_proc1:needAll (drawN Tryz.f38 1)=4:=by decide +kernel
section
variable {H:Heap} {col:Nat→Nat} {tid nid pid rid:Nat} {v1 v2 v3 v4 v5:Value} {T:Tab}
theorem RTab.set_procs (h:RTab H col tid nid pid rid v1 v2 v3 v4 v5 T)(l:List (ByteArray × Int)):RTab (H.set pid (.map (ents vI l))) col tid nid pid rid v1 v2 v3 v4 v5 { T with procs:=l }:=by
 have k:Same (fun i=>i=pid) H (H.set pid (.map (ents vI l))):=Same.set (X:=fun i=>i=pid) H h.lt.2.2.1 rfl _
 have ne:∀ i,col i≠3→¬i=pid:=fun i hi e=>hi (by rw[e];exact h.pc)
 have mv:∀ {c:Nat},c≠3→∀ i,col i=c→i<H.n→col i=c∧¬i=pid:=fun hc i hi _=>⟨hi,ne i (by omega)⟩
 exact⟨k.at h.obj (by simp) (ne _ (by have:=h.tc;omega)),h.tc,k.at h.nm (by simp) (ne _ (by have:=h.nc;omega)),h.nc,Heap.get_set_self _ _ h.lt.2.2.1,h.pc,k.at h.rm (by simp) (ne _ (by have:=h.rc;omega)),h.rc,
  repLoc.G_move k (mv (by omega)) h.g1,repInt.G_move k (mv (by omega)) h.g2,repCel.G_move k (mv (by omega)) h.g3,repInt.G_move k (mv (by omega)) h.g4,repInt.G_move k (mv (by omega)) h.g5,h.top⟩
end
def LocI (K0:Heap)(np lid:Nat)(ids:List Idn)(res:Except (Int × Int) (List (ByteArray × Int)))(m:Nat)(t:List Value)(K:Heap):Prop :=
 ∃ k acc,k≤ids.length∧m=ids.length - k∧rd t 47 = .int .i64 k∧localsP np acc k (ids.drop k)=res∧K.get lid = .map (ents vI acc)∧Same (fun i=>i=lid) K0 K
def LocJ (K0:Heap)(lid:Nat)(res:Except (Int × Int) (List (ByteArray × Int)))(t:List Value)(K:Heap):Prop :=
 ∃ l,res = .ok l∧K.get lid = .map (ents vI l)∧Same (fun i=>i=lid) K0 K
section
variable {E:Hooks} (hE:Plain E)
include hE
theorem proc_ok8:TProcOK E procB:=by
 intro T p col tid nid pid rid v1 v2 v3 v4 v5 cs K hT hok hlen hp
 obtain⟨w1,w2,w3,rfl,gp,gv,gb⟩:=hp
 obtain⟨b1,rfl⟩:=repIdn.G_slice gp
 obtain⟨b2,rfl⟩:=repIdn.G_slice gv
 obtain⟨b3,rfl⟩:=repStm.G_slice gb
 have hT1:=(hT.keep (Same.push (fun _=>False) _ (.row true 0 1 (pc5 p.at_ p.name (.slice b1 p.params.length p.params.length) (.slice b2 p.vars.length p.vars.length) (.slice b3 p.body.length p.body.length)))) (fun _ h=>h.elim)).keep (Same.push (fun _=>False) _ (.row true 0 1 [.int .i64 0,.int .i64 0])) (fun _ h=>h.elim)
 obtain⟨K2,eK,kK⟩:=known_run hE hT1 p.name
 have hT2:=hT1.keep kK (fun _ h=>h.elim)
 have k2:Same (fun _=>False) K K2:=((Same.push _ _ _).then_push _).trans kK
 have gP2:K2.get K.n = .row true 0 1 (pc5 p.at_ p.name (.slice b1 p.params.length p.params.length) (.slice b2 p.vars.length p.vars.length) (.slice b3 p.body.length p.body.length)):=kK.at (by rw[Heap.get_push,if_neg (by simp),Heap.get_push_self]) (by simp) (fun h=>h)
 have gF2:K2.get (K.n+1) = .row true 0 1 [.int .i64 0,.int .i64 0]:=kK.at (Heap.get_push_self _ _) (by simp) (fun h=>h)
 have l0:=hT.lt
 have l2:=hT2.lt
 have tF2:=Heap.lt_of_get gF2 (by simp)
 have tP2:K.n<K2.n:=by omega
 have g02:=hT2.obj
 have lP:=len_ints hT2.pm
 have c0:col (K.n+1)=0:=hT.top _ (by omega)
 rw[c_sproc hE,callB,bodyOf]
 unfold procB
 simp only[pc5]at eK gP2 ⊢
 by_cases h1:knownP T p.name=true
 · rw[if_pos h1]
   simp[Tryz.f38,eK,h1,gP2,gF2,tF2]
   exact (Same.none k2).then_set tF2 (.inr (by omega)) _
 rw[if_neg h1]
 have h1':knownP T p.name=false:=by simpa using h1
 obtain⟨n1,n2⟩:=known_no h1'
 by_cases h2:12≤T.procs.length
 · rw[if_pos h2]
   have h2':(12:Int)≤T.procs.length:=by omega
   simp[Tryz.f38,eK,h1',gP2,gF2,tF2,g02,lP,h2,h2']
   exact (Same.none k2).then_set tF2 (.inr (by omega)) _
 rw[if_neg h2]
 have h2':¬(12:Int)≤T.procs.length:=by omega
 have eM:=put_ints hT2.pm n2 (T.locals.length:Int)
 obtain⟨lq,el,clq,hlq⟩:=repLoc.G_some hT.g1 (by have:=hok.l;omega)
 subst el
 obtain⟨pq,el,cpq,hpq⟩:=repInt.G_some hT.g2 (by have:=hok.p;omega)
 subst el
 have hT3:=hT2.set_procs (T.procs++[(p.name,(T.locals.length:Int))])
 simp[Tryz.f38,eK,h1',gP2,gF2,tF2,g02,lP,h2,h2']
 refine region_quiet (by exact q_proc0) ?_
 have k3:Same (fun i=>col i≠0) K (K2.set pid (.map (ents vI (T.procs++[(p.name,(T.locals.length:Int))])))):=(Same.none k2).then_set l2.2.2.1 (.inl (by have:=hT.pc;omega)) _
 have nP:¬K.n=pid:=by omega
 have nF:¬K.n+1=pid:=by omega
 have gP3:(K2.set pid (.map (ents vI (T.procs++[(p.name,(T.locals.length:Int))])))).get K.n = .row true 0 1 [.int .i64 p.at_,.string p.name,.slice b1 p.params.length p.params.length,.slice b2 p.vars.length p.vars.length,.slice b3 p.body.length p.body.length]:=by rw[Heap.get_set _ _ _ l2.2.2.1,if_neg nP];exact gP2
 have gF3:(K2.set pid (.map (ents vI (T.procs++[(p.name,(T.locals.length:Int))])))).get (K.n+1) = .row true 0 1 [.int .i64 0,.int .i64 0]:=by rw[Heap.get_set _ _ _ l2.2.2.1,if_neg nF];exact gF2
 have n3:(K2.set pid (.map (ents vI (T.procs++[(p.name,(T.locals.length:Int))])))).n=K2.n:=rfl
 simp[g02,gP2,eM]
 generalize hK3:K2.set pid (.map (ents vI (T.procs++[(p.name,(T.locals.length:Int))])))=K3 at *
 have q3:∀ o o':AObj,((K3.push o).push o').get K.n=K3.get K.n:=fun o o'=>by rw[Heap.get_push,if_neg (by simp;omega),Heap.get_push,if_neg (by omega)]
 have q3':∀ o:AObj,(K3.push o).get K.n=K3.get K.n:=fun o=>by rw[Heap.get_push,if_neg (by omega)]
 have gp3:repIdn.G ((K3.push (.map [])).push (.row true 0 1 [.slice b1 p.params.length p.params.length,.slice b2 p.vars.length p.vars.length])) (fun i=>col i=0) (.slice b1 p.params.length p.params.length) p.params :=
  repIdn.G_move (X:=fun i=>col i≠0) ((k3.then_push _).then_push _) (fun i hi _=>⟨hi,fun h=>h hi⟩) gp
 have gv3:repIdn.G ((K3.push (.map [])).push (.row true 0 1 [.slice b1 p.params.length p.params.length,.slice b2 p.vars.length p.vars.length])) (fun i=>col i=0) (.slice b2 p.vars.length p.vars.length) p.vars :=
  repIdn.G_move (X:=fun i=>col i≠0) ((k3.then_push _).then_push _) (fun i hi _=>⟨hi,fun h=>h hi⟩) gv
 obtain⟨v,K5,e5,g5,k5⟩:=concat_run hE (H:=(K3.push (.map [])).push (.row true 0 1 [.slice b1 p.params.length p.params.length,.slice b2 p.vars.length p.vars.length])) (a:=K3.n+1) (Heap.get_push_self (K3.push (.map [])) _) gp3 gv3 hlen
 have hids2:(p.params++p.vars).length≤100000:=by rw[List.length_append];exact hlen
 generalize hids:p.params++p.vars=ids at *
 obtain⟨b5,rfl⟩:=repIdn.G_slice g5
 simp[q3,q3',gP3,e5]
 have n5:=k5.n
 simp at n5
 have gP5:K5.get K.n=_:=k5.at ((q3 _ _).trans gP3) (by simp) (fun h=>h)
 have gF5:K5.get (K.n+1) = .row true 0 1 [.int .i64 0,.int .i64 0]:=k5.at (by rw[Heap.get_push,if_neg (by simp;omega),Heap.get_push,if_neg (by omega)];exact gF3) (by simp) (fun h=>h)
 have gl5:K5.get K3.n = .map []:=k5.at (by rw[Heap.get_push,if_neg (by simp),Heap.get_push_self]) (by simp) (fun h=>h)
 generalize hr0:localsP p.params.length [] 0 ids=res
 refine loop_mid2 (LocJ K5 K3.n res) (LocI K5 p.params.length K3.n ids res) ids.length ?_ ?_ ?_
 · exact⟨0,[],Nat.zero_le _,by simp,by simp,hr0,gl5,Same.refl _ _⟩
 · rintro m t K6 hk ⟨k,acc,hkl,rfl,g47,hres,gM,k6⟩
   have ht:t.length=107:=hk.1.trans (by simp[len_Bs])
   have hh:=hk.all [0,3,4,5,45,46] (by decide +kernel)
   simp at hh
   obtain⟨u0,u3,u4,u5,u45,u46⟩:=hh
   have lM:=Heap.lt_of_get gM (by simp)
   have gP6:=k6.at gP5 (by simp) (by omega)
   have gF6:=k6.at gF5 (by simp) (by omega)
   have tF6:=Heap.lt_of_get gF6 (by simp)
   have tP6:K.n<K6.n:=by omega
   rcases Nat.lt_or_ge k ids.length with hlt | hge
   · have hb5:∃ id tl cs,b5=some ⟨id,0,none⟩∧K3.n<id∧K5.get id = .row true tl 2 cs∧cs.length=ids.length * 2∧(cs.drop (k * 2)).take 2=(ids[k]).cells:=by
      rcases g5 with⟨e1,e2⟩ | ⟨id,tl,cs,e1,_,e3,e4,e5'⟩
      · rw[e2]at hlt;cases hlt
      · cases e1
        exact⟨id,tl,cs,rfl,by simp at e3;omega,e4,repIdn.L_len e5',repIdn.L_get k hlt e5'⟩
     obtain⟨id,tl,cs,rfl,hid,hrow,hcl,hget⟩:=hb5
     have hrow6:=k6.at hrow (by simp) (by omega)
     have hdrop:ids.drop k=ids[k] :: ids.drop (k+1):=List.drop_eq_getElem_cons hlt
     rw[hdrop]at hres
     generalize ids[k]=x at *
     have hkl':(k:Int)<ids.length:=by omega
     have gM2:K6.get K2.n = .map (ents vI acc):=by rw[← n3];exact gM
     have f1:=fun o:AObj=>look_ints (H:=K6.push o) (nid:=K2.n) (l:=acc) (by rw[Heap.get_push,if_neg (by omega)];exact gM2) x.name
     have w1:IntKind.i64.wrap ((k:Int)+1)=(k:Int)+1:=wrap64 _ (by omega) (by omega)
     have f0:((findP x.name acc).map vI).getD (.int .i64 0) = .int .i64 ((findP x.name acc).getD 0):=by cases findP x.name acc<;>rfl
     rw[f0]at f1
     rw[localsP]at hres
     simp only[Idn.cells]at hget
     by_cases hf:(findP x.name acc).isSome=true
     · rw[if_pos hf]at hres
       rw[← hres]
       simp[ht,u0,u3,u4,u5,u45,u46,g47,hlt,hkl',hrow6,hcl,hget,show k * 2+2≤ids.length * 2 by omega,f1,hf,w1,tF6,gF6]
       have kA:Same (fun i=>col i≠0) K K6:=(((k3.then_push _).then_push _).then k5 (fun i hi=>hi.elim)).then k6 (fun i hi => .inr (by omega))
       exact (kA.then_push _).then_set (by simp;omega) (.inr (by omega)) _
     · rw[if_neg hf]at hres
       have hf':findP x.name acc=none:=by simpa using hf
       have em:=fun o:AObj=>put_ints (H:=K6.push o) (nid:=K2.n) (l:=acc) (by rw[Heap.get_push,if_neg (by omega)];exact gM2) hf' (k:Int)
       simp[ht,u0,u3,u4,u5,u45,u46,g47,hlt,hkl',hrow6,hcl,hget,show k * 2+2≤ids.length * 2 by omega,f1,hf']
       have kA:Same (fun i=>col i≠0) K K6:=(((k3.then_push _).then_push _).then k5 (fun i hi=>hi.elim)).then k6 (fun i hi => .inr (by omega))
       have q6:∀ o:AObj,(K6.push o).get K.n=K6.get K.n:=fun o=>by rw[Heap.get_push,if_neg (by omega)]
       have q6F:∀ o:AObj,(K6.push o).get (K.n+1)=K6.get (K.n+1):=fun o=>by rw[Heap.get_push,if_neg (by omega)]
       have bad:(k<p.params.length∧4≤k)∨8≤k→res = .error (16,x.at_):=fun h=>by rw[← hres,if_pos h]
       have good:¬((k<p.params.length∧4≤k)∨8≤k)→localsP p.params.length (acc++[(x.name,(k:Int))]) (k+1) (ids.drop (k+1))=res:=fun h=>by rw[← hres,if_neg h]
       have fin:∀ t':List Value,rd t' 47 = .int .i64 ((k:Int)+1)→¬((k<p.params.length∧4≤k)∨8≤k)→LocI K5 p.params.length K3.n ids res (ids.length - (k+1)) t' ((K6.push (.row true 0 1 [.int .i64 x.at_,.string x.name])).set K2.n (.map (ents vI (acc++[(x.name,(k:Int))])))):=fun t' ht' hc =>
        ⟨k+1,_,by omega,rfl,by rw[ht'];simp,good hc,by rw[n3];exact Heap.get_set_self _ _ (by simp;omega),(k6.then_push _).then_set (by simp;omega) (.inl n3.symm) _⟩
       by_cases c1:k<p.params.length
       · have c1':(k:Int)<p.params.length:=by omega
         by_cases c2:4≤k
         · have c2':(4:Int)≤k:=by omega
           rw[bad (.inl ⟨c1,c2⟩)]
           simp[ht,u0,u3,u4,u5,g47,q6,q6F,gP6,gF6,tF6,c1,c1',c2,c2']
           exact (kA.then_push _).then_set (by simp;omega) (.inr (by omega)) _
         · have c2':¬(4:Int)≤k:=by omega
           have c3':¬(8:Int)≤k:=by omega
           simp[ht,u0,u3,u4,u5,g47,q6,q6F,gP6,gF6,tF6,c1,c1',c2,c2',c3',em,w1]
           exact⟨_,by omega,fin _ (by simp[ht]) (by omega)⟩
       · have c1':¬(k:Int)<p.params.length:=by omega
         by_cases c3:8≤k
         · have c3':(8:Int)≤k:=by omega
           rw[bad (.inr c3)]
           simp[ht,u0,u3,u4,u5,g47,q6,q6F,gP6,gF6,tF6,c1,c1',c3,c3']
           exact (kA.then_push _).then_set (by simp;omega) (.inr (by omega)) _
         · have c3':¬(8:Int)≤k:=by omega
           simp[ht,u0,u3,u4,u5,g47,q6,q6F,gP6,gF6,tF6,c1,c1',c3,c3',em,w1]
           exact⟨_,by omega,fin _ (by simp[ht]) (by omega)⟩
   · have:k=ids.length:=by omega
     subst this
     simp[ht,u0,u3,u4,u5,u45,u46,g47]
     refine⟨acc,?_,gM,k6⟩
     rw[List.drop_length]at hres
     exact hres.symm
 · rintro t K6 hk ⟨l,hl,gM,k6⟩
   have ht:t.length=107:=hk.1.trans (by simp[len_Bs])
   have hh:=hk.all [0,3,4,5,45,46] (by decide +kernel)
   simp at hh
   obtain⟨u0,u3,u4,u5,u45,u46⟩:=hh
   subst hl
   have gP6:=k6.at gP5 (by simp) (by omega)
   have gF6:=k6.at gF5 (by simp) (by omega)
   have tF6:=Heap.lt_of_get gF6 (by simp)
   have kB:Same (fun _=>False) K3 K6:=(((Same.push (fun _=>False) K3 (.map [])).then_push (.row true 0 1 [.slice b1 p.params.length p.params.length,.slice b2 p.vars.length p.vars.length])).then k5 (fun i hi=>hi.elim)).then k6 (fun i hi => .inr (by omega))
   have hT6:=hT3.keep kB (fun _ h=>h.elim)
   have g06:=hT6.obj
   have l6:=hT6.lt
   simp only at g06
   simp[ht]
   refine region_free (by exact no_proc1) (by exact late_proc1) (by exact pre_proc1) (by exact ok_proc1) (by exact need_proc1) ?_
   have qt:∀ o1 o2 o3 o4:AObj,((((K6.push o1).push o2).push o3).push o4).get tid=K6.get tid:=fun o1 o2 o3 o4=>by
    rw[Heap.get_push,if_neg (by simp;omega),Heap.get_push,if_neg (by simp;omega),Heap.get_push,if_neg (by simp;omega),Heap.get_push,if_neg (by omega)]
   simp[ht,u0,u3,u4,u5,g06,qt]
   have lMK:=Heap.lt_of_get gM (by simp)
   have cz:∀ i,K.n≤i→col i=0:=hT.top
   have qn:((((K6.push .dead).push .dead).push .dead).push .dead).n=K6.n+4:=rfl
   have kR:Same (fun _=>False) K6 ((((K6.push .dead).push .dead).push .dead).push .dead):=(((Same.push _ _ _).then_push _).then_push _).then_push _
   generalize hR:(((K6.push .dead).push .dead).push .dead).push .dead=R at *
   have e7:exBuildSliceAt Tryz.prog 81 1 [(0,.map (some K2.n))] K6.n R=some (.slice (some ⟨K6.n,0,none⟩) 1 1,R.set K6.n (.row true 0 1 [.map (some K2.n)])):=by
    simp[exBuildSliceAt,Heap.pushAt_lt (show K6.n<R.n by omega)]
    rfl
   have k7:Same (fun i=>i=K6.n) R (R.set K6.n (.row true 0 1 [.map (some K2.n)])):=Same.set (X:=fun i=>i=K6.n) R (by omega) rfl _
   have gM7:(R.set K6.n (.row true 0 1 [.map (some K2.n)])).get K2.n = .map (ents vI l):=k7.at (kR.at (by rw[← n3];exact gM) (by simp) (fun h=>h)) (by simp) (by omega)
   have G7:repLoc.G (R.set K6.n (.row true 0 1 [.map (some K2.n)])) (fun i=>col i=5∨i=K2.n) (.slice (some ⟨lq,0,none⟩) T.locals.length T.locals.length) T.locals :=
    repLoc.G_move (Same.none (kR.mono fun _ h=>h) |>.trans k7) (fun i hi hlt=>⟨.inl hi,fun e=>by have:=cz i (by omega);omega⟩) hT6.g1
   have hvl:∀ i,vid (.slice (some ⟨lq,0,none⟩) T.locals.length T.locals.length) i→i<K6.n∧col i=5:=fun i hi=>repLoc.G_lt hT6.g1 hi
   obtain⟨R8,e8,G8,k8,n8⟩:=repLoc.G_appAt tf_loc9 G7 (r:=K6.n+1) (xid:=K6.n) (xc:=1) (by simp;omega) (fun h=>by have:=cz (K6.n+1) (by omega);omega) (by have:=hok.l;have:=hok.q;omega) (a:=l) (c:=[.map (some K2.n)]) (Heap.get_set_self _ _ (by omega)) (.inr ⟨K2.n,rfl,⟨.inr rfl,fun h=>by have:=(hvl _ h).2;have:=cz K2.n (by omega);omega⟩,gM7⟩)
   simp at n8
   have g08:R8.get tid=_:=k8.at (k7.at (kR.at g06 (by simp) (fun h=>h)) (by simp) (by omega)) (by simp) (fun h=>by
    rcases h with h | h
    · have:=(hvl _ h).2;have:=hT.tc;omega
    · omega)
   have gP8:R8.get K.n=_:=k8.at (k7.at (kR.at gP6 (by simp) (fun h=>h)) (by simp) (by omega)) (by simp) (fun h=>by
    rcases h with h | h
    · have:=(hvl _ h).2;have:=cz K.n (by omega);omega
    · omega)
   have e9:exBuildSliceAt Tryz.prog 22 1 [(0,.int .i64 p.params.length)] (K6.n+2) R8=some (.slice (some ⟨K6.n+2,0,none⟩) 1 1,R8.set (K6.n+2) (.row true 0 1 [.int .i64 p.params.length])):=by
    simp[exBuildSliceAt,Heap.pushAt_lt (show K6.n+2<R8.n by omega)]
    rfl
   have k9:Same (fun i=>i=K6.n+2) R8 (R8.set (K6.n+2) (.row true 0 1 [.int .i64 p.params.length])):=Same.set (X:=fun i=>i=K6.n+2) R8 (by omega) rfl _
   have mv8:∀ i,i<K.n→col i≠5→¬((vid (.slice (some ⟨lq,0,none⟩) T.locals.length T.locals.length) i)∨i=K6.n+1):=fun i hi hc e=>e.elim (fun e=>hc (hvl _ e).2) (fun e=>by omega)
   have hX:∀ i,col i≠0→i<K.n:=fun i hi=>by
    rcases Nat.lt_or_ge i K.n with h | h
    · exact h
    · exact absurd (cz i h) hi
   have kAll:Same (fun i=>i=K6.n∨vid (.slice (some ⟨lq,0,none⟩) T.locals.length T.locals.length) i∨i=K6.n+1∨i=K6.n+2) K6 (R8.set (K6.n+2) (.row true 0 1 [.int .i64 p.params.length])) :=
    ((kR.mono fun _ h=>h.elim).trans ((k7.mono fun _ h => .inl h).trans ((k8.mono fun _ h => .inr (h.elim .inl (fun h => .inr (.inl h)))).trans (k9.mono fun _ h => .inr (.inr (.inr h))))))
   have G9:repInt.G (R8.set (K6.n+2) (.row true 0 1 [.int .i64 p.params.length])) (fun i=>col i=6) (.slice (some ⟨pq,0,none⟩) T.params.length T.params.length) T.params :=
    repInt.G_move kAll (fun i hi hlt=>⟨hi,fun e=>by
     have:=hX i (by omega)
     rcases e with e | e | e | e
     · omega
     · have:=(hvl _ e).2;omega
     · omega
     · omega⟩) hT6.g2
   obtain⟨R10,e10,G10,k10,n10⟩:=repInt.G_appAt tf_int G9 (r:=K6.n+3) (xid:=K6.n+2) (xc:=1) (by simp;omega) (fun h=>by have:=cz (K6.n+3) (by omega);omega) (by have:=hok.p;have:=hok.q;omega) (a:=p.params.length) (c:=[.int .i64 p.params.length]) (Heap.get_set_self _ _ (by omega)) rfl
   have t10:tid<R10.n:=by simp at n10;omega
   have g010:R10.get tid=_:=k10.at (k9.at g08 (by simp) (by omega)) (by simp) (fun h=>by
    rcases h with h | h
    · have:pq=tid:=h;have:=hT.tc;rw[‹pq=tid›]at cpq;omega
    · omega)
   have gP9:(R8.set (K6.n+2) (.row true 0 1 [.int .i64 p.params.length])).get K.n=_:=k9.at gP8 (by simp) (by omega)
   have g09:(R8.set (K6.n+2) (.row true 0 1 [.int .i64 p.params.length])).get tid=_:=k9.at g08 (by simp) (by omega)
   have z1:¬tid=lq:=fun e=>by have:=hT.tc;rw[e]at this;omega
   have z2:¬tid=pq:=fun e=>by have:=hT.tc;rw[e]at this;omega
   have z3:¬lq=pq:=fun e=>by rw[e]at clq;omega
   have z4:tid<K.n:=l0.1
   have z5:¬K.n=tid:=by omega
   simp[ht,u0,u3,e7,e8,g08,gP8,e9,gP9,g09,e10,g010,t10]
   have gF10:R10.get (K.n+1) = .row true 0 1 [.int .i64 0,.int .i64 0]:=k10.at (k9.at (k8.at (k7.at (kR.at gF6 (by simp) (fun h=>h)) (by simp) (by omega)) (by simp) (fun h=>by
    rcases h with h | h
    · have:lq=K.n+1:=h;omega
    · omega)) (by simp) (by omega)) (by simp) (fun h=>by
    rcases h with h | h
    · have:pq=K.n+1:=h;omega
    · omega)
   have ne:∀ {a b:Nat},a<b→(a=b)=False∧(b=a)=False:=fun h=>⟨eq_false (by omega),eq_false (by omega)⟩
   have a1:=ne (show tid<K.n by omega)
   have a2:=ne (show tid<K6.n by omega)
   have a3:=ne (show tid<K6.n+1 by omega)
   have a4:=ne (show tid<K6.n+2 by omega)
   have a5:=ne (show tid<K6.n+2+1 by omega)
   have b1:=ne (show lq<K.n by omega)
   have b2:=ne (show lq<K6.n by omega)
   have b3:=ne (show lq<K6.n+1 by omega)
   have b4:=ne (show lq<K6.n+2 by omega)
   have b5:=ne (show lq<K6.n+2+1 by omega)
   have c1:=ne (show pq<K.n by omega)
   have c2:=ne (show pq<K6.n by omega)
   have c3:=ne (show pq<K6.n+1 by omega)
   have c4:=ne (show pq<K6.n+2 by omega)
   have c5:=ne (show pq<K6.n+2+1 by omega)
   have d1:=ne (show K.n<K6.n by omega)
   have d2:=ne (show K.n<K6.n+1 by omega)
   have d3:=ne (show K.n<K6.n+2 by omega)
   have d4:=ne (show K.n<K6.n+2+1 by omega)
   have f1:(lq=tid)=False:=eq_false fun e=>z1 e.symm
   have f2:(pq=tid)=False:=eq_false fun e=>z2 e.symm
   have f3:(pq=lq)=False:=eq_false fun e=>z3 e.symm
   have a6:=ne (show tid<K.n+1 by omega)
   have n10':K.n+1<R10.n:=Heap.lt_of_get gF10 (by simp)
   simp (config:={ decide:=true }) [ht,u4,gF10,a6,n10',t10,a1,a2,a3,a4,a5,b1,b2,b3,b4,b5,c1,c2,c3,c4,c5,d1,d2,d3,d4,f1,f2,f3,z1,z2,z3,List.elem_eq_mem]
   generalize hrow:AObj.row true 0 1 [Value.map (some nid),Value.map (some pid),Value.slice (some ⟨K6.n+1,0,none⟩) (T.locals.length+1) (T.locals.length+1),Value.slice (some ⟨K6.n+3,0,none⟩) (T.params.length+1) (T.params.length+1),v3,v4,v5,Value.map (some rid),Value.int IntKind.i64 T.words]=row at *
   have kF10:Same (fun i=>i=tid∨i=K.n+1) R10 ((R10.set tid row).set (K.n+1) (.row true 0 1 [.int .i64 0,.int .i64 0])):=(Same.set R10 t10 (.inl rfl) _).trans (Same.set (R10.set tid row) n10' (.inr rfl) _)
   have kF8:Same (fun i=>i=K6.n+2∨i=pq∨i=K6.n+3∨i=tid∨i=K.n+1) R8 ((R10.set tid row).set (K.n+1) (.row true 0 1 [.int .i64 0,.int .i64 0])) :=
    (k9.mono fun i h => .inl h).trans ((k10.mono fun i h=>h.elim (fun h => .inr (.inl h.symm)) (fun h => .inr (.inr (.inl h)))).trans (kF10.mono fun i h => .inr (.inr (.inr h))))
   have kF:Same (fun i=>i=tid∨i=lq∨i=pq∨K6.n≤i∨i=K.n+1) K6 ((R10.set tid row).set (K.n+1) (.row true 0 1 [.int .i64 0,.int .i64 0])) :=
    (kR.mono fun i h=>h.elim).trans ((k7.mono fun i h => .inr (.inr (.inr (.inl (by omega))))).trans ((k8.mono fun i h=>h.elim (fun h => .inr (.inl h.symm)) (fun h => .inr (.inr (.inr (.inl (by omega)))))).trans
     (kF8.mono fun i h=>by rcases h with h | h | h | h | h<;>omega)))
   have kK:Same (fun i=>col i≠0) K K6:=(((k3.then_push _).then_push _).then k5 (fun i hi=>hi.elim)).then k6 (fun i hi => .inr (by omega))
   have kKF:Same (fun i=>col i≠0) K ((R10.set tid row).set (K.n+1) (.row true 0 1 [.int .i64 0,.int .i64 0])) :=
    kK.then kF (fun i hi=>by
     have:=hT.tc
     rcases hi with rfl | rfl | rfl | h | h
     · exact .inl (by omega)
     · exact .inl (by omega)
     · exact .inl (by omega)
     · exact .inr (by omega)
     · exact .inr (by omega))
   have nF:((R10.set tid row).set (K.n+1) (.row true 0 1 [.int .i64 0,.int .i64 0])).n=K6.n+4:=by show R10.n=_;simp at n10;omega
   refine⟨kKF,⟨hok.t,hok.s,hok.c,hok.w0,hok.w1,hok.r,by simp[procT];omega,by simp[procT];exact hok.l,by simp[procT];exact hok.p⟩,fun i=>if i=K6.n+1 then 5 else if i=K6.n+3 then 6 else if i=K2.n then 5 else col i,⟨nid,pid,rid,.slice (some ⟨K6.n+1,0,none⟩) (T.locals.length+1) (T.locals.length+1),.slice (some ⟨K6.n+3,0,none⟩) (T.params.length+1) (T.params.length+1),v3,v4,v5,?_⟩,fun i hi=>by dsimp only;rw[if_neg (by omega),if_neg (by omega),if_neg (by omega)]⟩
   have colv:∀ i,i<K.n→(if i=K6.n+1 then 5 else if i=K6.n+3 then 6 else if i=K2.n then 5 else col i)=col i:=fun i hi=>by rw[if_neg (by omega),if_neg (by omega),if_neg (by omega)]
   have mv:∀ {c:Nat},c≠0→c≠1→c≠5→c≠6→∀ i,col i=c→i<K6.n→(if i=K6.n+1 then 5 else if i=K6.n+3 then 6 else if i=K2.n then 5 else col i)=c∧¬(i=tid∨i=lq∨i=pq∨K6.n≤i∨i=K.n+1):=fun {c} h0 h1 h5 h6 i hi hlt=>by
    have hk:=hX i (by omega)
    refine⟨by rw[colv i hk];exact hi,fun e => ?_⟩
    have:=hT.tc
    rcases e with rfl | rfl | rfl | e | e
    all_goals omega
   subst hrow
   have hl0:=hT.lt
   have mvn:∀ i,col i≠0→col i≠1→col i≠5→col i≠6→¬(i=tid∨i=lq∨i=pq∨K6.n≤i∨i=K.n+1):=fun i h0 h1 h5 h6=>(mv h0 h1 h5 h6 i rfl (by have:=hX i h0;omega)).2
   refine⟨?_,by rw[colv _ (by omega)];exact hT.tc,kF.at hT6.nm (by simp) (mvn _ (by have:=hT.nc;omega) (by have:=hT.nc;omega) (by have:=hT.nc;omega) (by have:=hT.nc;omega)),by rw[colv _ (by omega)];exact hT.nc,
    kF.at hT6.pm (by simp) (mvn _ (by have:=hT.pc;omega) (by have:=hT.pc;omega) (by have:=hT.pc;omega) (by have:=hT.pc;omega)),by rw[colv _ (by omega)];exact hT.pc,
    kF.at hT6.rm (by simp) (mvn _ (by have:=hT.rc;omega) (by have:=hT.rc;omega) (by have:=hT.rc;omega) (by have:=hT.rc;omega)),by rw[colv _ (by omega)];exact hT.rc,?_,?_,
    repCel.G_move kF (mv (by omega) (by omega) (by omega) (by omega)) hT6.g3,repInt.G_move kF (mv (by omega) (by omega) (by omega) (by omega)) hT6.g4,repInt.G_move kF (mv (by omega) (by omega) (by omega) (by omega)) hT6.g5,
    fun i hi=>by rw[nF]at hi;rw[if_neg (by omega),if_neg (by omega),if_neg (by omega)];exact cz i (by omega)⟩
   · rw[Heap.get_set _ _ _ (by exact n10'),if_neg (by omega)]
     exact Heap.get_set_self _ _ t10
   · have:=repLoc.G_move kF8 (S':=fun i=>(if i=K6.n+1 then 5 else if i=K6.n+3 then 6 else if i=K2.n then 5 else col i)=5) (fun i hi hlt=>by
      rcases hi with (h | h) | h
      · have hk:=hX i (by omega)
        refine⟨by rw[colv i hk];exact h,fun e => ?_⟩
        have:=hT.tc
        rcases e with e | rfl | e | rfl | e<;>omega
      · subst h
        refine⟨by rw[if_neg (by omega),if_neg (by omega),if_pos rfl],fun e => ?_⟩
        rcases e with e | e | e | e | e<;>omega
      · subst h
        refine⟨by rw[if_pos rfl],fun e => ?_⟩
        rcases e with e | e | e | e | e<;>omega) G8
     simpa [procT] using this
   · have:=repInt.G_move kF10 (S':=fun i=>(if i=K6.n+1 then 5 else if i=K6.n+3 then 6 else if i=K2.n then 5 else col i)=6) (fun i hi hlt=>by
      rcases hi with h | h
      · have hk:=hX i (by omega)
        refine⟨by rw[colv i hk];exact h,fun e => ?_⟩
        have:=hT.tc
        rcases e with rfl | e<;>omega
      · subst h
        refine⟨by rw[if_neg (by omega),if_pos rfl],fun e => ?_⟩
        rcases e with e | e<;>omega) G10
     simpa [procT] using this
end
end Go.Vm.Scope
namespace Go.Vm
section
variable {α:Type}
theorem Rep.G_at (ρ:Rep α){H:Heap}{S:Nat→Prop}{v:Value}{l:List α}(h:ρ.G H S v l){k:Nat}(hk:k<l.length) :
  ∃ id tl cs,v = .slice (some ⟨id,0,none⟩) l.length l.length∧S id∧id<H.n∧H.get id = .row true tl ρ.k cs∧cs.length=l.length * ρ.k∧ρ.R H (fun i=>S i∧i≠id) l[k] ((cs.drop (k * ρ.k)).take ρ.k)∧k * ρ.k+ρ.k≤l.length * ρ.k:=by
 rcases h with⟨e1,e2⟩ | ⟨id,tl,cs,e1,_,e3,e4,e5⟩
 · rw[e2]at hk;cases hk
 · exact⟨id,tl,cs,e1,e3,Heap.lt_of_get e4 (by simp),e4,ρ.L_len e5,ρ.L_get k hk e5,by rw[← Nat.succ_mul];exact Nat.mul_le_mul_right _ hk⟩
end
theorem room6 (H:Heap):Same (fun _=>False) H ((((((H.push .dead).push .dead).push .dead).push .dead).push .dead).push .dead):=(((((Same.push _ _ _).then_push _).then_push _).then_push _).then_push _).then_push _
section
variable {α β γ:Type}
theorem app3 (ρ1:Rep α)(ρ2:Rep β)(ρ3:Rep γ){P:Program}{t1 t2 t3:TypeId}(T1:TF P t1 ρ1.k)(T2:TF P t2 ρ2.k)(T3:TF P t3 ρ3.k){H R:Heap}(hR:Same (fun _=>False) H R)(hn:R.n=H.n+6){S1 S2 S3:Nat→Prop}
  (hS1:∀ i,S1 i→i<H.n) (hS2:∀ i,S2 i→i<H.n) (hS3:∀ i,S3 i→i<H.n) (d12:∀ i,S1 i→¬S2 i) (d13:∀ i,S1 i→¬S3 i) (d23:∀ i,S2 i→¬S3 i)
  {v1 v2 v3:Value} {l1:List α} {l2:List β} {l3:List γ} (g1:ρ1.G H S1 v1 l1) (g2:ρ2.G H S2 v2 l2) (g3:ρ3.G H S3 v3 l3) {a1:α} {a2:β} {a3:γ} {c1 c2 c3:List Value}
  (r1:ρ1.R H (fun i=>S1 i∧¬vid v1 i) a1 c1) (r2:ρ2.R H (fun i=>S2 i∧¬vid v2 i) a2 c2) (r3:ρ3.R H (fun i=>S3 i∧¬vid v3 i) a3 c3) (h1:l1.length≤100000) (h2:l2.length≤100000) (h3:l3.length≤100000) :
  ∃ H2 H4 H6,exAppendAt P [t1,t1] v1 (.slice (some ⟨H.n,0,none⟩) 1 1) (H.n+1) (R.set H.n (.row true 0 ρ1.k c1))=some (.slice (some ⟨H.n+1,0,none⟩) (l1.length+1) (l1.length+1),H2) ∧
   exAppendAt P [t2,t2] v2 (.slice (some ⟨H.n+2,0,none⟩) 1 1) (H.n+3) (H2.set (H.n+2) (.row true 0 ρ2.k c2))=some (.slice (some ⟨H.n+3,0,none⟩) (l2.length+1) (l2.length+1),H4) ∧
   exAppendAt P [t3,t3] v3 (.slice (some ⟨H.n+4,0,none⟩) 1 1) (H.n+5) (H4.set (H.n+4) (.row true 0 ρ3.k c3))=some (.slice (some ⟨H.n+5,0,none⟩) (l3.length+1) (l3.length+1),H6) ∧
   Same (fun i=>S1 i) H H2∧Same (fun i=>S1 i∨S2 i) H H4∧Same (fun i=>S1 i∨S2 i∨S3 i) H H6∧H2.n=H.n+6∧H4.n=H.n+6∧H6.n=H.n+6 ∧
   ρ1.G H6 (fun i=>S1 i∨i=H.n+1) (.slice (some ⟨H.n+1,0,none⟩) (l1.length+1) (l1.length+1)) (l1++[a1]) ∧
   ρ2.G H6 (fun i=>S2 i∨i=H.n+3) (.slice (some ⟨H.n+3,0,none⟩) (l2.length+1) (l2.length+1)) (l2++[a2]) ∧
   ρ3.G H6 (fun i=>S3 i∨i=H.n+5) (.slice (some ⟨H.n+5,0,none⟩) (l3.length+1) (l3.length+1)) (l3++[a3]):=by
 have k1:Same (fun i=>i=H.n) R (R.set H.n (.row true 0 ρ1.k c1)):=Same.set (X:=fun i=>i=H.n) R (by omega) rfl _
 have v1S:∀ i,vid v1 i→S1 i:=fun i hi=>(ρ1.G_lt g1 hi).2
 have v2S:∀ i,vid v2 i→S2 i:=fun i hi=>(ρ2.G_lt g2 hi).2
 have v3S:∀ i,vid v3 i→S3 i:=fun i hi=>(ρ3.G_lt g3 hi).2
 have z1:∀ i,S1 i→i<H.n→S1 i∧¬i=H.n:=fun i hi hl=>⟨hi,by omega⟩
 have kR1:Same (fun i=>i=H.n) H (R.set H.n (.row true 0 ρ1.k c1)):=(hR.mono fun _ h=>h.elim).trans k1
 obtain⟨H2,e2,G2,q2,n2⟩:=ρ1.G_appAt T1 (ρ1.G_move kR1 z1 g1) (r:=H.n+1) (xid:=H.n) (xc:=1) (by simp;omega) (fun h=>by have:=hS1 _ h;omega) h1 (a:=a1) (c:=c1) (Heap.get_set_self _ _ (by omega)) (ρ1.move kR1 (fun i hi hl=>⟨hi,by omega⟩) _ _ r1)
 simp at n2
 have k2:Same (fun i=>i=H.n+2) H2 (H2.set (H.n+2) (.row true 0 ρ2.k c2)):=Same.set (X:=fun i=>i=H.n+2) H2 (by omega) rfl _
 have kH2:Same (fun i=>S1 i) H H2:=⟨by omega,fun i hi hx=>by
  rw[q2.get i (by simp;omega) (fun h=>h.elim (fun h=>hx (v1S i h)) (fun h=>by omega)),k1.get i (by omega) (by omega),hR.get i hi (fun h=>h)]⟩
 have kH2':Same (fun i=>S1 i∨i=H.n+2) H (H2.set (H.n+2) (.row true 0 ρ2.k c2)):=(kH2.mono fun _ h => .inl h).trans (k2.mono fun _ h => .inr h)
 obtain⟨H4,e4,G4,q4,n4⟩:=ρ2.G_appAt T2 (ρ2.G_move kH2' (S':=S2) (fun i hi hl=>⟨hi,fun h=>h.elim (fun h=>d12 i h hi) (fun h=>by omega)⟩) g2) (r:=H.n+3) (xid:=H.n+2) (xc:=1) (by simp;omega) (fun h=>by have:=hS2 _ h;omega) h2 (a:=a2) (c:=c2) (Heap.get_set_self _ _ (by omega)) (ρ2.move kH2' (fun i hi hl=>⟨hi,fun h=>h.elim (fun h=>d12 i h hi.1) (fun h=>by omega)⟩) _ _ r2)
 simp at n4
 have kH4:Same (fun i=>S1 i∨S2 i) H H4:=⟨by omega,fun i hi hx=>by
  rw[q4.get i (by simp;omega) (fun h=>h.elim (fun h=>hx (.inr (v2S i h))) (fun h=>by omega)),k2.get i (by omega) (by omega),kH2.get i hi (fun h=>hx (.inl h))]⟩
 have k4:Same (fun i=>i=H.n+4) H4 (H4.set (H.n+4) (.row true 0 ρ3.k c3)):=Same.set (X:=fun i=>i=H.n+4) H4 (by omega) rfl _
 have kH4':Same (fun i=>(S1 i∨S2 i)∨i=H.n+4) H (H4.set (H.n+4) (.row true 0 ρ3.k c3)):=(kH4.mono fun _ h => .inl h).trans (k4.mono fun _ h => .inr h)
 have no3:∀ i,S3 i→¬((S1 i∨S2 i)∨i=H.n+4):=fun i hi h=>by
  rcases h with (h | h) | h
  · exact d13 i h hi
  · exact d23 i h hi
  · have:=hS3 i hi;omega
 obtain⟨H6,e6,G6,q6,n6⟩:=ρ3.G_appAt T3 (ρ3.G_move kH4' (S':=S3) (fun i hi hl=>⟨hi,no3 i hi⟩) g3) (r:=H.n+5) (xid:=H.n+4) (xc:=1) (by simp;omega) (fun h=>by have:=hS3 _ h;omega) h3 (a:=a3) (c:=c3) (Heap.get_set_self _ _ (by omega)) (ρ3.move kH4' (fun i hi hl=>⟨hi,no3 i hi.1⟩) _ _ r3)
 simp at n6
 refine⟨H2,H4,H6,e2,e4,e6,kH2,kH4,⟨by omega,fun i hi hx=>by
  rw[q6.get i (by simp;omega) (fun h=>h.elim (fun h=>hx (.inr (.inr (v3S i h)))) (fun h=>by omega)),k4.get i (by omega) (by omega),kH4.get i hi (fun h=>hx (h.elim .inl (fun h => .inr (.inl h))))]⟩,by omega,by omega,by omega,?_,?_,G6⟩
 · have t:Same (fun i=>i=H.n+2∨vid v2 i∨i=H.n+3∨i=H.n+4∨vid v3 i∨i=H.n+5) H2 H6 :=
    (k2.mono fun _ h => .inl h).trans ((q4.mono fun _ h=>h.elim (fun h => .inr (.inl h)) (fun h => .inr (.inr (.inl h)))).trans ((k4.mono fun _ h => .inr (.inr (.inr (.inl h)))).trans (q6.mono fun _ h=>h.elim (fun h => .inr (.inr (.inr (.inr (.inl h))))) (fun h => .inr (.inr (.inr (.inr (.inr h))))))))
   refine ρ1.G_move t (fun i hi hl=>⟨hi,fun h => ?_⟩) G2
   have hi':i<H.n∨i=H.n+1:=hi.imp (hS1 i) id
   rcases h with h | h | h | h | h | h
   · omega
   · have:=hS2 i (v2S i h)
     rcases hi with hi | hi
     · exact d12 i hi (v2S i h)
     · omega
   · omega
   · omega
   · have:=hS3 i (v3S i h)
     rcases hi with hi | hi
     · exact d13 i hi (v3S i h)
     · omega
   · omega
 · have t:Same (fun i=>i=H.n+4∨vid v3 i∨i=H.n+5) H4 H6:=(k4.mono fun _ h => .inl h).trans (q6.mono fun _ h => .inr h)
   refine ρ2.G_move t (fun i hi hl=>⟨hi,fun h => ?_⟩) G4
   have hi':i<H.n∨i=H.n+3:=hi.imp (hS2 i) id
   rcases h with h | h | h
   · omega
   · have:=hS3 i (v3S i h)
     rcases hi with hi | hi
     · exact d23 i hi (v3S i h)
     · omega
   · omega
end
end Go.Vm
namespace Go.Vm.Scope
open Go Go.Proofs Go.Vm.Parse
attribute [local simp] repCells_succ writeAt rd_Fr toList_beq gpe gpn spe gse gsn ne_r0 ne_l0 le_s0 ne_r1 ne_l1 lt_s1 le_s1 ne_r2 ne_l2 lt_s2 le_s2 ne_r3 ne_l3 lt_s3 le_s3 ne_r4 ne_l4 lt_s4 le_s4 ne_r5 ne_l5 lt_s5 le_s5 ne_r6 ne_l6 lt_s6 le_s6 ne_r7 ne_l7 lt_s7 le_s7
def repStr:Rep ByteArray where
 k:=1
 R _ _ x cs:=cs=[.string x]
 len h:=by subst h;rfl
 move _ _ _ _ h:=h
def repNm:Rep Nm where
 k:=3
 R _ _ x cs:=cs=[.int .i64 x.kind,.int .i64 x.index,.int .i64 x.size]
 len h:=by subst h;rfl
 move _ _ _ _ h:=h
def repStrs:Rep (List ByteArray) where
 k:=1
 R H S l cs:=∃ v,cs=[v]∧repStr.G H S v l
 len h:=by obtain⟨v,rfl,_⟩:=h;rfl
 move k hs l cs h:=by
  obtain⟨v,e,g⟩:=h
  exact⟨v,e,repStr.G_move k hs g⟩
structure RT where
 names:List ByteArray
 means:List Nm
 procs:List ByteArray
 heads:List Int
 locals:List (List ByteArray)
 values:List Int
def rt6 (v1 v2 v3 v4 v5 v6:Value):List Value:=[v1,v2,v3,v4,v5,v6]
structure RRef (H:Heap)(col:Nat→Nat)(tid:Nat)(v1 v2 v3 v4 v5 v6:Value)(T:RT):Prop where
 obj:H.get tid = .row true 0 1 (rt6 v1 v2 v3 v4 v5 v6)
 tc:col tid=1
 g1:repStr.G H (fun i=>col i=2) v1 T.names
 g2:repNm.G H (fun i=>col i=3) v2 T.means
 g3:repStr.G H (fun i=>col i=4) v3 T.procs
 g4:repInt.G H (fun i=>col i=5) v4 T.heads
 g5:repStrs.G H (fun i=>col i=6) v5 T.locals
 g6:repInt.G H (fun i=>col i=7) v6 T.values
 top:∀ i,H.n≤i→col i=0
theorem RRef.keep {H H':Heap}{col:Nat→Nat}{tid:Nat}{v1 v2 v3 v4 v5 v6:Value}{T:RT}{X:Nat→Prop}(h:RRef H col tid v1 v2 v3 v4 v5 v6 T)(k:Same X H H')(hx:∀ i,X i→col i=0):RRef H' col tid v1 v2 v3 v4 v5 v6 T :=
 have mv:∀ {c:Nat},c≠0→∀ i,col i=c→i<H.n→col i=c∧¬X i:=fun hc i hi _=>⟨hi,fun e=>by have:=hx _ e;omega⟩
 ⟨k.at h.obj (by simp) (fun e=>by have:=hx _ e;have:=h.tc;omega),h.tc,repStr.G_move k (mv (by omega)) h.g1,repNm.G_move k (mv (by omega)) h.g2,repStr.G_move k (mv (by omega)) h.g3,repInt.G_move k (mv (by omega)) h.g4,
  repStrs.G_move k (mv (by omega)) h.g5,repInt.G_move k (mv (by omega)) h.g6,fun i hi=>h.top i (Nat.le_trans k.n hi)⟩
def clsP (k:Int):Int:=if k=4 then 3 else k
section
variable {E:Hooks} (hE:Plain E)
include hE
theorem c_hasText (args:List Value)(H:Heap):(run Tryz.prog E).call 39 args H=callB Tryz.prog E Tryz.f39 args H:=call_B Tryz.func39 rfl (by decide +kernel) (hE.no _ rfl rfl) args H
theorem c_rfault (args:List Value)(H:Heap):(run Tryz.prog E).call 40 args H=callB Tryz.prog E Tryz.f40 args H:=call_B Tryz.func40 rfl (by decide +kernel) (hE.no _ rfl rfl) args H
theorem c_rclass (args:List Value)(H:Heap):(run Tryz.prog E).call 41 args H=callB Tryz.prog E Tryz.f41 args H:=call_B Tryz.func41 rfl (by decide +kernel) (hE.no _ rfl rfl) args H
theorem c_rBuild (args:List Value)(H:Heap):(run Tryz.prog E).call 14 args H=callB Tryz.prog E Tryz.f14 args H:=call_B Tryz.func14 rfl (by decide +kernel) (hE.no _ rfl rfl) args H
theorem rclass_run (k:Int)(H:Heap):(run Tryz.prog E).call 41 [.int .i64 k] H=some (.val (.int .i64 (clsP k)),H):=by
 suffices key:Gives ((run Tryz.prog E).call 41 [.int .i64 k] H) fun o H'=>o = .val (.int .i64 (clsP k))∧H'=H by
  obtain⟨o,H',e,rfl,rfl⟩:=key
  exact e
 rw[c_rclass hE,callB,bodyOf]
 unfold clsP
 by_cases h:k=4
 · simp[Tryz.f41,h]
 · simp[Tryz.f41,h]
theorem rfault_run (c a:Int)(H:Heap):∃ H',(run Tryz.prog E).call 40 [.int .i64 c,.int .i64 a] H=some (.val (.agg ⟨[.int .i64 c,.int .i64 a]⟩),H')∧Same (fun _=>False) H H':=by
 suffices key:Gives ((run Tryz.prog E).call 40 [.int .i64 c,.int .i64 a] H) fun o H'=>o = .val (.agg ⟨[.int .i64 c,.int .i64 a]⟩)∧Same (fun _=>False) H H' by
  obtain⟨o,H',e,rfl,k⟩:=key
  exact⟨H',e,k⟩
 rw[c_rfault hE,callB,bodyOf]
 simp[Tryz.f40]
 exact Same.push _ _ _
def hasP (l:List ByteArray)(x:ByteArray):Bool:=l.any fun y=>decide (y=x)
theorem hasText_run {H:Heap}{S:Nat→Prop}{v:Value}{l:List ByteArray}(g:repStr.G H S v l)(hl:l.length≤1000000)(x:ByteArray):(run Tryz.prog E).call 39 [v,.string x] H=some (.val (.bool (hasP l x)),H):=by
 suffices key:Gives ((run Tryz.prog E).call 39 [v,.string x] H) fun o H'=>o = .val (.bool (hasP l x))∧H'=H by
  obtain⟨o,H',e,rfl,rfl⟩:=key
  exact e
 rw[c_hasText hE,callB,bodyOf]
 obtain⟨b,rfl⟩:=repStr.G_slice g
 simp[Tryz.f39]
 refine loop_mid2 (fun t K=>K=H∧hasP l x=false) (fun m t K=>K=H∧∃ k,k≤l.length∧m=l.length - k∧rd t 5 = .int .i64 k∧hasP l x=hasP (l.drop k) x) l.length ?_ ?_ ?_
 · exact⟨rfl,0,Nat.zero_le _,by simp,by simp,by simp⟩
 · rintro m t K hk ⟨rfl,k,hkl,rfl,g5,hh⟩
   have ht:t.length=18:=hk.1.trans (by simp[len_Bs])
   have hh0:=hk.all [0,1] (by decide +kernel)
   simp at hh0
   obtain⟨u0,u1⟩:=hh0
   rcases Nat.lt_or_ge k l.length with hlt | hge
   · obtain⟨id,tl,cs,e1,_,_,hrow,hcl,hget,hle⟩:=repStr.G_at g hlt
     cases e1
     have hd:l.drop k=l[k] :: l.drop (k+1):=List.drop_eq_getElem_cons hlt
     rw[hd]at hh
     generalize l[k]=y at *
     simp only[repStr,Nat.mul_one]at hget hcl hle
     have w1:IntKind.i64.wrap ((k:Int)+1)=(k:Int)+1:=wrap64 _ (by omega) (by omega)
     have hq:hasP (y :: l.drop (k+1)) x=(decide (y=x) || hasP (l.drop (k+1)) x):=by simp[hasP]
     rw[hq]at hh
     have hc1:cs[k]? = some (.string y):=by
      have:=congrArg (fun q=>q[0]?) hget
      simpa using this
     have hc2:cs[k]'(by omega) = .string y:=(List.getElem?_eq_some_iff.1 hc1).2
     by_cases hy:y=x
     · simp[hy]at hh
       subst hy
       simp[ht,u0,u1,g5,hlt,hrow,hcl,hget,hle,hc2,hh]
     · simp[hy]at hh
       simp[ht,u0,u1,g5,hlt,hrow,hcl,hget,hle,hc2,hy,w1]
       exact⟨l.length - (k+1),by omega,k+1,by omega,rfl,by simp[ht],hh⟩
   · simp[ht,u0,u1,g5,show ¬k<l.length by omega]
     rw[hh,List.drop_eq_nil_of_le hge]
     rfl
 · rintro t K hk ⟨rfl,hf⟩
   have ht:t.length=18:=hk.1.trans (by simp[len_Bs])
   simp[ht,hf]
end
def cntP (k:Int):List Nm→Nat
 | []=>0
 | m :: l=>(if clsP m.kind=clsP k then 1 else 0)+cntP k l
theorem cntP_snoc (k:Int)(m:Nm):∀ l:List Nm,cntP k (l++[m])=cntP k l+(if clsP m.kind=clsP k then 1 else 0)
 | []=>by simp[cntP]
 | a :: l=>by simp only[List.cons_append,cntP,cntP_snoc k m l];omega
theorem cntP_le (k:Int):∀ l:List Nm,cntP k l≤l.length
 | []=>Nat.le_refl _
 | a :: l=>by have:=cntP_le k l;simp only[cntP,List.length_cons];split<;>omega
def manyP (R:RT)(d:Dcl):Prop:=(d.kind=1∧6≤cntP d.kind R.means)∨(d.kind=2∧8≤cntP d.kind R.means)∨(clsP d.kind=3∧16≤cntP d.kind R.means)
def unitsB (d:Dcl):Prop:=(d.kind=1∧(d.n<1∨1000<d.n))∨(d.kind=2∧(d.n<0∨1000<d.n))
instance (R:RT) (d:Dcl):Decidable (manyP R d):=by unfold manyP;infer_instance
instance (d:Dcl):Decidable (unitsB d):=by unfold unitsB;infer_instance
def rdclT (R:RT)(d:Dcl):RT:={ R with names:=R.names++[d.name],means:=R.means++[⟨d.kind,cntP d.kind R.means,if clsP d.kind=3 then d.n else 0⟩],values:=R.values++[d.n] }
def rdclB (R:RT)(d:Dcl):Except (Int × Int) RT :=
 if hasP R.names d.name=true then .error (17,d.at_)else if manyP R d then .error (16,d.at_)else if unitsB d then .error (24,d.at_)else .ok (rdclT R d)
def rdeclsB (R:RT):List Dcl→Except (Int × Int) RT
 | [] => .ok R
 | d :: l => match rdclB R d with
  | .error e => .error e
  | .ok R'=>rdeclsB R' l
def rlocB (np:Nat):List ByteArray→Nat→List Idn→Except (Int × Int) (List ByteArray)
 | acc,_,[] => .ok acc
 | acc,i,x :: xs=>if hasP acc x.name=true then .error (17,x.at_)else if (i<np∧4≤i)∨8≤i then .error (16,x.at_)else rlocB np (acc++[x.name]) (i+1) xs
def rprcT (R:RT)(p:Prc)(l:List ByteArray):RT:={ R with procs:=R.procs++[p.name],heads:=R.heads++[(p.params.length:Int)],locals:=R.locals++[l] }
def rprcB (R:RT)(p:Prc):Except (Int × Int) RT :=
 if hasP R.names p.name=true∨hasP R.procs p.name=true then .error (17,p.at_)else if 12≤R.procs.length then .error (16,p.at_)
 else match rlocB p.params.length [] 0 (p.params++p.vars)with
  | .error e => .error e
  | .ok l => .ok (rprcT R p l)
def rprocsB (R:RT):List Prc→Except (Int × Int) RT
 | [] => .ok R
 | p :: l => match rprcB R p with
  | .error e => .error e
  | .ok R'=>rprocsB R' l
def rt0:RT:=⟨[],[],[],[],[],[]⟩
def rbuildB (s:Src):Except (Int × Int) RT:=match rdeclsB rt0 s.decls with
 | .error e => .error e
 | .ok R=>rprocsB R s.procs
def RetRB (H:Heap)(res:Except (Int × Int) RT)(o:Out)(H':Heap):Prop :=
 Same (fun _=>False) H H'∧match res with
 | .error (c,a)=>o = .val (.tuple #[.pointer none,.agg ⟨[.int .i64 c,.int .i64 a]⟩])
 | .ok R=>∃ (col:Nat→Nat) (tid:Nat) (v1 v2 v3 v4 v5 v6:Value),o = .val (.tuple #[.pointer (some ⟨tid,0,none⟩),.agg ⟨[.int .i64 0,.int .i64 0]⟩])∧RRef H' col tid v1 v2 v3 v4 v5 v6 R∧(∀ i,i<H.n→col i=0)
structure RAt (H K:Heap)(sc:List Value)(col:Nat→Nat)(T:RT)(nd np:Nat):Prop where
 same:Same (fun _=>False) H K
 box:K.get H.n = .row true 0 1 sc
 res:K.get (H.n+1) = .row true 0 1 [.int .i64 0,.int .i64 0]
 tab:∃ v1 v2 v3 v4 v5 v6,RRef K col (H.n+2) v1 v2 v3 v4 v5 v6 T∧(nd=0→v1=nl∧v2=nl∧v6=nl)∧(np=0→v3=nl∧v4=nl∧v5=nl)
 zero:∀ i,i≤H.n+1→col i=0
 n1:T.names.length=nd
 n2:T.means.length=nd
 n6:T.values.length=nd
 n3:T.procs.length=np
 n4:T.heads.length=np
 n5:T.locals.length=np
theorem RAt.keep {H K K':Heap}{sc:List Value}{col:Nat→Nat}{T:RT}{nd np:Nat}{X:Nat→Prop}(h:RAt H K sc col T nd np)(k:Same X K K')(hx:∀ i,X i→col i=0∧H.n+1<i):RAt H K' sc col T nd np:=by
 obtain⟨v1,v2,v3,v4,v5,v6,ht,hz⟩:=h.tab
 exact⟨h.same.then k (fun i hi => .inr (by have:=(hx i hi).2;omega)),k.at h.box (by simp) (fun e=>by have:=(hx _ e).2;omega),k.at h.res (by simp) (fun e=>by have:=(hx _ e).2;omega),⟨_,_,_,_,_,_,ht.keep k (fun i hi=>(hx i hi).1),hz⟩,h.zero,h.n1,h.n2,h.n6,h.n3,h.n4,h.n5⟩
theorem tf_str:TF Tryz.prog 68 1:=⟨_,_,_,by simp,by simp,by simp;rfl,by omega,by simp;rfl,rfl,by omega,rfl⟩
theorem tf_nms:TF Tryz.prog 110 3:=⟨_,_,_,by simp,by simp,by simp;rfl,by omega,by simp;rfl,rfl,by omega,rfl⟩
theorem tf_strs:TF Tryz.prog 111 1:=⟨_,_,_,by simp,by simp,by simp;rfl,by omega,by simp;rfl,rfl,by omega,rfl⟩
theorem q_rb0:quiet Tryz.prog (drawN Tryz.f14 0)=true:=by decide +kernel
theorem pl_rb1:planOf Tryz.prog (drawN Tryz.f14 1)=some [none,none,none,none,none,none,none,none,none,(some (0,1)),(some (0,1)),none,none]:=by decide +kernel
theorem no_rb2:planOf Tryz.prog (drawN Tryz.f14 2)=none:=by decide +kernel
theorem la_rb2:lateAt (drawN Tryz.f14 2)=none:=by decide +kernel
def pre_rb2:List Nat:=[0,0,0,0,8,24,56,0,128,384,1016,0,2048,6144,14336,0,32768,131064,0,262144,786432,1835008,0,4194304,12582912,33554424,67108857,134217721,268435449,536870907,1073741819,2147483643,4294967295,8589934591,17179869183]
theorem pr_rb2:preOf (drawN Tryz.f14 2)=pre_rb2:=by decide +kernel
theorem ok_rb2:freeOK (drawN Tryz.f14 2) pre_rb2=true:=by decide +kernel
theorem ne_rb2:needAll (drawN Tryz.f14 2)=6:=by decide +kernel
theorem q_rb3:quiet Tryz.prog (drawN Tryz.f14 3)=true:=by decide +kernel
theorem no_rb4:planOf Tryz.prog (drawN Tryz.f14 4)=none:=by decide +kernel
theorem la_rb4:lateAt (drawN Tryz.f14 4)=none:=by decide +kernel
def pre_rb4:List Nat:=[0,0,0,0,8,24,56,0,128,384,1016,0,2048,6144,14336,0,32768,98304,229376,524280,0,1048576,3145728,7340032,0,16777216,67108856,134217721,268435449,536870905,1073741819,2147483643,4294967291,8589934591,17179869183,34359738367]
theorem pr_rb4:preOf (drawN Tryz.f14 4)=pre_rb4:=by decide +kernel
theorem ok_rb4:freeOK (drawN Tryz.f14 4) pre_rb4=true:=by decide +kernel
theorem ne_rb4:needAll (drawN Tryz.f14 4)=6:=by decide +kernel
end Go.Vm.Scope
