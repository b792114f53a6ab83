/- What is proved: a table that was built is as the checkers need it: no procedure has a global's name, and the kinds are four. What is proved: the reader's 'branch', and with it 'Parse' of any source. What is proved: a fault of 'Parse' is no zero. What is proved: 'signalboxlaw26.alike', of any source that is no longer than may be. What is proved: strings put together, and made into bytes. What is proved: the law's 'front', 'fault' and 'alike'. What is proved: the program's 'Type': an expression's type, or what is wrong with it. What is proved: the law's 'awake'; 'TypingAll' hands back true, whatever the input. What is proved: a source that is too long is refused; 'alike' of any bytes. What is proved: the maker of sources goes on, whatever its numbers are: its small steps. What is proved: the maker of sources goes on: expressions, truths, items. What is proved: the maker of sources goes on: truths, conditions, items, the procedure that is called. What is proved: the maker of sources goes on: processes that begin side by side. What is proved: the maker of sources goes on: statements in rows, and regions. What is proved: the maker of sources goes on: one statement. What is proved: the maker of sources makes a text, whatever its numbers are. What is proved: parts of bytes, and bytes put together, in a region in which objects are made in any order. What is proved: the law's Within, for any bounds. What is proved: the maker's 'word' and 'Swapped', as far as laws need them. What is proved: 'TypingMade' hands back true, whatever the input. What is proved: 'TypingShared' hands back true, whatever the input. -/
import Derived.Test.YtpfjogcjmlhhfaaGreatDoorX6
set_option maxRecDepth 100000
set_option maxHeartbeats 4000000
set_option linter.unusedSimpArgs false
set_option linter.unusedVariables false
set_option linter.unusedSectionVars false
namespace Go.Vm.Typing
open Go Go.Proofs Go.Vm.Parse Go.Vm.Scope
theorem hasP_snoc (l:List ByteArray)(y x:ByteArray):hasP (l++[y]) x=(hasP l x || decide (y=x)):=by
 unfold hasP
 rw[List.any_append]
 simp
theorem findP_has {β:Type}(x:ByteArray):∀ (l:List ByteArray)(ms:List β),(findP x (l.zip ms)).isSome=true→hasP l x=true
 | [],ms,h=>by simp[findP]at h
 | a :: l,[],h=>by simp[findP]at h
 | a :: l, m :: ms, h => by
  rw[List.zip_cons_cons,findP]at h
  unfold hasP
  rw[List.any_cons]
  split at h
  · rename_i e
    simp only at e
    simp[e]
  · have:=findP_has x l ms h
    unfold hasP at this
    simp[this]
theorem rdecls_good:∀ (l:List Dcl){R R':RT},(∀ d∈l,DclOK d)→(∀ m∈R.means,1≤m.kind∧m.kind≤4)→R.procs=[]→rdeclsB R l = .ok R'→(∀ m∈R'.means,1≤m.kind∧m.kind≤4)∧R'.procs=[]
 | [], R, R', _, h1, h2, e => by
  simp only[rdeclsB]at e
  cases e
  exact⟨h1,h2⟩
 | d :: l, R, R', hd, h1, h2, e => by
  simp only[rdeclsB]at e
  cases hr:rdclB R d with
  | error q=>rw[hr]at e;cases e
  | ok R1 =>
   rw[hr]at e
   unfold rdclB at hr
   split at hr
   · cases hr
   · split at hr
     · cases hr
     · split at hr
       · cases hr
       · cases hr
         refine rdecls_good l (R:=rdclT R d) (fun d h=>hd d (List.mem_cons_of_mem _ h)) ?_ h2 e
         intro m hm
         have hm:m∈R.means++[_]:=hm
         rcases List.mem_append.1 hm with hm | hm
         · exact h1 m hm
         · rw[List.mem_singleton]at hm
           subst hm
           have:=hd d List.mem_cons_self
           exact⟨this.k1,this.k4⟩
theorem rprocs_good:∀ (l:List Prc){R R':RT},(∀ x,hasP R.names x=true→hasP R.procs x=false)→rprocsB R l = .ok R'→(∀ x,hasP R'.names x=true→hasP R'.procs x=false)∧R'.means=R.means
 | [], R, R', h1, e => by
  simp only[rprocsB]at e
  cases e
  exact⟨h1,rfl⟩
 | p :: l, R, R', h1, e => by
  simp only[rprocsB]at e
  cases hr:rprcB R p with
  | error q=>rw[hr]at e;cases e
  | ok R1 =>
   rw[hr]at e
   unfold rprcB at hr
   split at hr
   · cases hr
   · rename_i hn
     split at hr
     · cases hr
     · split at hr
       · cases hr
       · rename_i L _
         cases hr
         refine rprocs_good l (R:=rprcT R p L) ?_ e
         intro x hx
         simp only[rprcT]at hx ⊢
         rw[hasP_snoc,h1 x hx,Bool.false_or]
         refine decide_eq_false fun h=>hn (.inl ?_)
         rw[h]
         exact hx
theorem build_good {s:Src}{R:RT}(hd:∀ d∈s.decls,DclOK d)(e:rbuildB s = .ok R):RGood R:=by
 unfold rbuildB at e
 cases h1:rdeclsB rt0 s.decls with
 | error q=>rw[h1]at e;cases e
 | ok R1 =>
  rw[h1]at e
  have q1:=rdecls_good s.decls hd (by intro m hm;cases hm) rfl h1
  have q2:=rprocs_good s.procs (R:=R1) (by intro x _;rw[q1.2];rfl) e
  refine⟨fun x hx => ?_,fun m hm => ?_⟩
  · unfold isPrc
    rw[idx_has]
    exact q2.1 x (findP_has x _ _ hx)
  · rw[q2.2]at hm
    exact q1.1 m hm
end Go.Vm.Typing
namespace Go.Vm.Parse
open Go Go.Proofs
attribute [local simp] repCells_succ writeAt rd_Fr toList_beq gpe gpn spe gse gsn ne_r0 ne_l0 le_s0 ne_r1 ne_l1 lt_s1 le_s1 ne_r2 ne_l2 lt_s2 le_s2 ne_r3 ne_l3 lt_s3 le_s3 ne_r4 ne_l4 lt_s4 le_s4 ne_r5 ne_l5 lt_s5 le_s5 ne_r6 ne_l6 lt_s6 le_s6 ne_r7 ne_l7 lt_s7 le_s7
theorem no_bran:planOf Tryz.prog (drawN Tryz.f79 0)=none:=by decide +kernel
theorem at_bran : ∃ os, lateAt (drawN Tryz.f79 0) = some ⟨8, 6, 78, os⟩ ∧ os.op = .store 78 (.tmp 6) (.tmp 16) := ⟨((drawN Tryz.f79 0)[9]?).getD ⟨none, .move (.tmp 0), 0, "", #[], none⟩, by kernel_rfl, by kernel_rfl⟩
theorem pl_bran:planOf Tryz.prog (lateA (drawN Tryz.f79 0))=some [(some (0,1)),(some (0,1)),(some (0,1)),(some (0,1)),none,none,none,none,(some (0,1))]:=by decide +kernel
theorem z_bran:zeroT Tryz.prog 78=some (.agg ⟨[.int .i64 0,.string ByteArray.empty,nl,nl]⟩):=by kernel_rfl
theorem v_bran (cs:List Value):varObj Tryz.prog 78 cs = .row true 0 1 cs:=by unfold varObj;simp
def bc4 (a:Int)(x:ByteArray)(v w:Value):List Value:=[.int .i64 a,.string x,v,w]
theorem RB.slices {H:Heap}{S:Nat→Prop}{b:Bra}{cs:List Value}(h:RB H S b cs):∃ a x a1 a2 a3 b1 b2 b3,cs=bc4 a x (.slice a1 a2 a3) (.slice b1 b2 b3):=by
 obtain⟨v,w,rfl,h1,h2⟩:=h
 obtain⟨b1,rfl⟩:=repEx.G_slice h1
 obtain⟨b2,rfl⟩:=repItm.G_slice h2
 exact⟨_,_,_,_,_,_,_,_,rfl⟩
section
variable {E:Hooks} (hE:Plain E) {r lid:Nat} {L:List Tk}
include hE
theorem bran_ok:BranOK E branP r lid L:=by
 intro n lv s b s' hx h0 h24 H h
 have hr:=h.lt
 have hl:=h.lid_lt
 have hsm:=h.small
 have aP:At (H.push (.row true 0 1 (bc4 0 ByteArray.empty nl nl))) r lid L s (H.push (.row true 0 1 (bc4 0 ByteArray.empty nl nl))):=⟨Same.refl _ _,h.same (Same.push _ _ _)⟩
 obtain⟨HA,eA,kA,hA⟩:=name_run hE aP.rd
 have aA:=aP.go kA hA
 have nA:=kA.n
 simp at nA
 unfold branP at hx
 simp only[Option.bind_eq_some_iff]at hx
 obtain⟨⟨a1,s1⟩,hx1,hx2⟩:=hx
 have aB:=(aA.push (.row true 0 1 (nameP L s).cells)).push .dead
 obtain⟨o,HC,eC,v,rfl,kC,hC,gC⟩:=args_run hE h0 h24 hx1 aB.rd
 have aC:=aB.go kC hC
 have nC:=kC.n
 simp at nC
 obtain⟨b0,rfl⟩:=repEx.G_slice gC
 have g1:HC.get (HA.n+1) = .dead:=by
  rw[kC.get _ (by simp) (by omega)]
  exact Heap.get_push_self (HA.push (.row true 0 1 (nameP L s).cells)) .dead
 have g2:HC.get HA.n = .row true 0 1 (nameP L s).cells:=kC.at (by simp) (by simp) (by omega)
 have lC:Loc (H.push (.row true 0 1 (bc4 0 ByteArray.empty nl nl))) r lid L (HA.n+1) s1 (bc4 (nameP L s).at_ (nameP L s).name (.slice b0 a1.length a1.length) nl) (HC.set (HA.n+1) (.row true 0 1 (bc4 (nameP L s).at_ (nameP L s).name (.slice b0 a1.length a1.length) nl))) :=
  ⟨aC.set (by simp;omega) (by simp;omega) (by simp;omega) (by omega) _,Heap.get_set_self _ _ (by omega),by show HA.n+1<HC.n;omega,by simp;omega,by simp;omega,by simp;omega⟩
 have gX:repEx.G (HC.set (HA.n+1) (.row true 0 1 (bc4 (nameP L s).at_ (nameP L s).name (.slice b0 a1.length a1.length) nl))) (fun i=>HA.n+1<i) (.slice b0 a1.length a1.length) a1 :=
  repEx.G_set gC (by omega) (fun j hj=>by simp at hj;exact⟨by omega,by omega⟩) _
 obtain⟨os,ea,eo⟩:=at_bran
 rw[c_branch hE,callB,bodyOf]
 simp only[Idn.cells,bc4]at eA eC g2 lC gX
 have q1:HA.n+1<HC.n:=by omega
 simp[Tryz.f79,eA]
 refine region_late (by exact no_bran) (by exact ea) (by exact pl_bran) (by exact z_bran) ?_
 simp[lateA,blank,eC,g2]
 rw[exLast_go q1 g1]
 simp[eo,q1,v_bran]
 have gK:=lC.get
 have tK:=lC.lt
 have t0:H.n<HC.n:=by omega
 by_cases c1:isP L s1 tClaims=true
 · rw[if_pos c1]at hx2
   simp only[Option.map_eq_some_iff]at hx2
   obtain⟨⟨l2,s2⟩,hx3,hx4⟩:=hx2
   cases hx4
   obtain⟨HD,eD,lD,kD⟩:=lC.take_yes hE c1
   obtain⟨HE,b,m,eE,lE,gE,kE⟩:=lD.items hE hx3
   have gKE:=lE.get
   have tKE:=lE.lt
   have g0:HE.get H.n = .row true 0 1 (bc4 0 ByteArray.empty nl nl):=lE.at_.same.at (Heap.get_push_self _ _) (by simp) (by omega)
   have t0E:=Heap.lt_of_get g0 (by simp)
   simp only[bc4]at g0
   simp only[tClaims]at eD
   obtain⟨b3,e3⟩:=repItm.G_slice gE
   cases e3
   simp[eD,eE,gKE,tKE,g0,t0E,show ¬H.n=HA.n+1 by omega,show ¬HA.n+1=H.n by omega]
   have lF:=lE.put (bc4 (nameP L s).at_ (nameP L s).name (.slice b0 a1.length a1.length) (.slice b l2.length l2.length))
   refine ret_rep repBra hr hl lF.at_ ?_ _
   refine⟨_,_,rfl,repEx.G_move (Same.refl (fun _=>False) _) (fun i hi _=>⟨by omega,fun h=>h⟩) (lE.fld_put (lD.fld (lC.fld gX kD) kE) _),repItm.G_move (Same.refl (fun _=>False) _) (fun i hi _=>⟨by omega,fun h=>h⟩) (lE.fld_put gE _)⟩
 · rw[if_neg c1]at hx2
   cases hx2
   have c1':isP L s1 tClaims=false:=by simpa using c1
   obtain⟨HD,eD,lD,kD⟩:=lC.take_no hE c1'
   have gKD:=lD.get
   have tKD:=lD.lt
   have g0:HD.get H.n = .row true 0 1 (bc4 0 ByteArray.empty nl nl):=lD.at_.same.at (Heap.get_push_self _ _) (by simp) (by omega)
   have t0D:=Heap.lt_of_get g0 (by simp)
   simp only[bc4]at g0
   simp only[tClaims]at eD
   simp[eD,gKD,tKD,g0,t0D,show ¬H.n=HA.n+1 by omega,show ¬HA.n+1=H.n by omega]
   refine ret_rep repBra hr hl lD.at_ ?_ _
   exact⟨_,_,rfl,repEx.G_move (Same.refl (fun _=>False) _) (fun i hi _=>⟨by omega,fun h=>h⟩) (lC.fld gX kD),repItm.G_nil _ _⟩
end
end Go.Vm.Parse
namespace Go.Vm.Parse
open Go Go.Proofs
section
variable {E:Hooks} (hE:Plain E)
include hE
theorem parse_any {H:Heap}{v:Value}{src:List UInt8}(hv:isTuple v=false)(hall:AllOK E H v src)(hsm:src.length≤4096){n:Nat}{res:Src ⊕ (Int × Int)}(hx:parseP branP src n=some res) :
  Gives ((run Tryz.prog E).call 12 [v] H) (RetP H res) :=
 parse_walk0 hE (fun L n lv s b s' h=>branP_lt h) (fun r lid L=>bran_ok hE) hv hall hsm hx
end
theorem srcP_bad {B:BrP}{L:List Tk}{n:Nat}{c a:Int}(h:srcP B L n=some (.inr (c,a))):c≠0:=by
 simp only[srcP,Option.bind_eq_some_iff,Option.map_eq_some_iff]at h
 obtain⟨d,_,p,_,q,_,b,_,h5⟩:=h
 split at h5
 · cases h5
 · rename_i hc
   simp only[Sum.inr.injEq,Prod.mk.injEq]at h5
   rw[← h5.1];exact hc
theorem parseP_bad {B:BrP}{src:List UInt8}{n:Nat}{c a:Int}(h:parseP B src n=some (.inr (c,a))):c≠0:=by
 unfold parseP at h
 simp only[Option.bind_eq_some_iff]at h
 obtain⟨q,h1,h2⟩:=h
 cases q with
 | inr f =>
  simp only[Option.some.injEq,Sum.inr.injEq]at h2
  subst h2
  exact lexFrom_bad h1
 | inl L=>exact srcP_bad h2
end Go.Vm.Parse
namespace Go.Vm.Scope
open Go Go.Proofs Go.Vm.Parse
attribute [local simp] repCells_succ writeAt rd_Fr toList_beq gpe gpn spe gse gsn ne_r0 ne_l0 le_s0 ne_r1 ne_l1 lt_s1 le_s1 ne_r2 ne_l2 lt_s2 le_s2 ne_r3 ne_l3 lt_s3 le_s3 ne_r4 ne_l4 lt_s4 le_s4 ne_r5 ne_l5 lt_s5 le_s5 ne_r6 ne_l6 lt_s6 le_s6 ne_r7 ne_l7 lt_s7 le_s7
theorem decls_tok:∀ (l:List Dcl){T T':Tab},TOK T→(∀ d∈l,d.kind≠1→d.kind≠2→d.n≤1099511627776)→declsB T l = .ok T'→TOK T'
 | [],T,T',h,_,e=>by simp only[declsB,Except.ok.injEq]at e;rw[← e];exact h
 | d :: l, T, T', h, hd, e => by
  rw[declsB]at e
  split at e
  · cases e
  · split at e
    · cases e
    · rename_i T1 h1
      exact decls_tok l (h.into (hd d (by simp)) h1) (fun d hd'=>hd d (by simp[hd'])) e
theorem procs_tok:∀ (l:List Prc){T T':Tab},TOK T→procsB procB T l = .ok T'→TOK T'
 | [],T,T',h,e=>by simp only[procsB,Except.ok.injEq]at e;rw[← e];exact h
 | p :: l, T, T', h, e => by
  rw[procsB]at e
  unfold procB at e
  split at e
  · cases e
  · rename_i T1 h1
    split at h1
    · cases h1
    · split at h1
      · cases h1
      · split at h1
        · cases h1
        · rename_i l1 hl1
          cases h1
          have hq:¬12≤T.procs.length:=by assumption
          exact procs_tok l (T:=procT T p l1) ⟨h.t,h.s,h.c,h.w0,h.w1,h.r,by simp[procT];omega,by simp[procT];exact h.l,by simp[procT];exact h.p⟩ e
theorem build_tok {s:Src}{T:Tab}(hd:∀ d∈s.decls,d.kind≠1→d.kind≠2→d.n≤1099511627776)(e:buildP procB s = .ok T):TOK T:=by
 unfold buildP at e
 split at e
 · cases e
 · rename_i T1 h1
   exact procs_tok _ (decls_tok _ tab0_ok hd h1) e
theorem rdecls_len:∀ (l:List Dcl){R R':RT},rdeclsB R l = .ok R'→R'.names.length=R.names.length+l.length
 | [],R,R',e=>by simp only[rdeclsB,Except.ok.injEq]at e;rw[← e];rfl
 | d :: l, R, R', e => by
  rw[rdeclsB]at e
  split at e
  · cases e
  · rename_i R1 h1
    have:=rdecls_len l e
    unfold rdclB at h1
    split at h1
    · cases h1
    · split at h1
      · cases h1
      · split at h1
        · cases h1
        · cases h1
          rw[this]
          simp[rdclT]
          omega
theorem rprocs_names:∀ (l:List Prc){R R':RT},rprocsB R l = .ok R'→R'.names=R.names
 | [],R,R',e=>by simp only[rprocsB,Except.ok.injEq]at e;rw[← e]
 | p :: l, R, R', e => by
  rw[rprocsB]at e
  split at e
  · cases e
  · rename_i R1 h1
    have:=rprocs_names l e
    unfold rprcB at h1
    split at h1
    · cases h1
    · split at h1
      · cases h1
      · split at h1
        · cases h1
        · cases h1
          exact this
theorem build_rok {s:Src}{T:Tab}{R:RT}(hT:TOK T)(ha:Agree T R)(hl:s.decls.length≤100000)(e:rbuildB s = .ok R):ROK R:=by
 unfold rbuildB at e
 split at e
 · cases e
 · rename_i R1 h1
   have l1:=rdecls_len _ h1
   have l2:=rprocs_names _ e
   simp[rt0]at l1
   have q:=hT.q
   rw[ha.a7,numF_len]at q
   exact⟨ha.n1,ha.n2,ha.n3,ha.n4,by rw[l2];omega,by omega,fun l h=>by have:=ha.l3 l h;omega,ha.sz⟩
section
variable {E:Hooks} (hE:Plain E)
include hE
end
end Go.Vm.Scope
namespace Go.Vm.Parse
open Go Go.Proofs
theorem bin_cat2 (x y:Operand)(a b:ByteArray)(h:a.size+b.size≤100000):exBin Tryz.prog .add 9 x y (.string a) (.string b)=some (.string (a++b)):=by
 have e:Op.stringOp .add a b=pure (.string (a++b)):=by
  show (if ((a.size+b.size:Nat):Int) > IntKind.i64.max then _ else _)=_
  rw[if_neg (by have:IntKind.i64.max=9223372036854775807:=rfl;omega)]
 simp only[exBin,ground_string,Bool.and_self]
 rw[pureRun_bind _ (eqGuard .add 9 x y (.string a) (.string b)) () rfl]
 show ifGround (pureRun Tryz.prog (Op.stringOp .add a b))=_
 rw[e]
 rfl
theorem conv_text2 (x:ByteArray)(H:Heap):exConvert Tryz.prog 9 34 (.string x) H=some (.slice (some ⟨H.n,0,none⟩) x.size x.size,H.push (.row true 1 1 (bytesOf x))):=by
 simp[exConvert]
theorem text_BS2 (x:ByteArray)(H:Heap):BS (H.push (.row true 1 1 (bytesOf x))) H.n 0 x.size x.data.toList:=by
 obtain⟨⟨l⟩⟩:=x
 refine⟨true,1,1,_,Heap.get_push_self _ _,?_,?_,?_⟩
 · simp[bytesOf]
 · simp[ByteArray.size]
 · simp[bytesOf]
   rw[List.take_of_length_le (by simp)]
   rfl
end Go.Vm.Parse
namespace Go.Vm.Typing
open Go Go.Proofs Go.Vm.Parse Go.Vm.Scope
attribute [local simp] repCells_succ writeAt rd_Fr toList_beq gpe gpn spe gse gsn ne_r0 ne_l0 le_s0 ne_r1 ne_l1 lt_s1 le_s1 ne_r2 ne_l2 lt_s2 le_s2 ne_r3 ne_l3 lt_s3 le_s3 ne_r4 ne_l4 lt_s4 le_s4 ne_r5 ne_l5 lt_s5 le_s5 ne_r6 ne_l6 lt_s6 le_s6 ne_r7 ne_l7 lt_s7 le_s7
def FrontQ (H:Heap)(res:Src ⊕ (Int × Int))(o:Out)(H':Heap):Prop :=
 Same (fun _=>False) H H'∧∃ y a1 a2 a3 b1 b2 b3 c1 c2 c3 d1 d2 d3 t w f,o = .val (.tuple #[.agg ⟨sr5 y (.slice a1 a2 a3) (.slice b1 b2 b3) (.slice c1 c2 c3) (.slice d1 d2 d3)⟩,.pointer t,.pointer w,.bool f]) ∧
  match res with
  | .inr _=>f=false
  | .inl S => match rbuildB S with
   | .error _=>f=false
   | .ok R => f = true ∧ ∃ (tid rtid n : Nat) (col col' : Nat → Nat) (T : Tab) (nid pid rid : Nat) (v1 v2 v3 v4 v5 w1 w2 w3 w4 w5 w6 : Value), t = some ⟨tid, 0, none⟩ ∧ w = some ⟨rtid, 0, none⟩ ∧
    RTab H' col tid nid pid rid v1 v2 v3 v4 v5 T∧RRef H' col' rtid w1 w2 w3 w4 w5 w6 R∧Scope.Agree T R∧TOK T∧ROK R∧RGood R∧RSrc H' (fun _=>True) S (sr5 y (.slice a1 a2 a3) (.slice b1 b2 b3) (.slice c1 c2 c3) (.slice d1 d2 d3))∧SrcOK S n∧n≤100000
theorem fault_eql (x y:Operand)(a b c d:Int):exBin Tryz.prog .eql 38 x y (.agg ⟨[.int .i64 a,.int .i64 b]⟩) (.agg ⟨[.int .i64 c,.int .i64 d]⟩)=some (.bool (decide (a=c) && decide (b=d))) :=
 (bin_struct und_fault held_fault gt_fault rfl rfl (fe_fault a b c d)).1
def faultP:Src ⊕ (Int × Int)→Int × Int
 | .inr _=>(4,0)
 | .inl S => match rbuildB S with
  | .error _=>(4,0)
  | .ok R=>(fc (checkB R S),fa (checkB R S))
theorem stK_facts (HP:Heap)(z cs:List Value)(c a:Int) :
  Same (fun _=>False) HP ((((HP.push (.row true 0 1 z)).push (.row true 0 1 [.int .i64 0,.int .i64 0])).set HP.n (.row true 0 1 cs)).set (HP.n+1) (.row true 0 1 [.int .i64 c,.int .i64 a])) ∧
  ((((HP.push (.row true 0 1 z)).push (.row true 0 1 [.int .i64 0,.int .i64 0])).set HP.n (.row true 0 1 cs)).set (HP.n+1) (.row true 0 1 [.int .i64 c,.int .i64 a])).get HP.n = .row true 0 1 cs ∧
  ((((HP.push (.row true 0 1 z)).push (.row true 0 1 [.int .i64 0,.int .i64 0])).set HP.n (.row true 0 1 cs)).set (HP.n+1) (.row true 0 1 [.int .i64 c,.int .i64 a])).n=HP.n+2 :=
 ⟨Same.then_set (Same.then_set ((Same.push _ _ _).then_push _) (by simp) (.inr (by simp)) _) (by simp) (.inr (by simp)) _,by rw[Heap.get_set _ _ _ (by simp),if_neg (by simp)];exact Heap.get_set_self _ _ (by simp),rfl⟩
section
variable {E:Hooks} (hE:Plain E)
include hE
theorem c_front (args:List Value)(H:Heap):(run Tryz.prog E).call 5 args H=callB Tryz.prog E Tryz.f5 args H:=call_B Tryz.func5 rfl (by decide +kernel) (hE.no _ rfl rfl) args H
theorem front_run {H:Heap}{b:ByteArray}(hb:b.size≤4096){n:Nat}{res:Src ⊕ (Int × Int)}(hx:parseP branP b.data.toList n=some res) :
  Gives ((run Tryz.prog E).call 5 [.string b] H) (FrontQ H res):=by
 rw[c_front hE,callB,bodyOf]
 have hsz:b.data.toList.length=b.size:=by obtain⟨⟨l⟩⟩:=b;rfl
 have cv:=conv_text2 b (H.push (.row true 0 1 [.string ByteArray.empty,.slice none 0 0,.slice none 0 0,.slice none 0 0,.slice none 0 0]))
 have kH:Same (fun _=>False) H ((H.push (.row true 0 1 [.string ByteArray.empty,.slice none 0 0,.slice none 0 0,.slice none 0 0,.slice none 0 0])).push (.row true 1 1 (bytesOf b))):=(Same.push _ _ _).then_push _
 have hbs:=text_BS2 b (H.push (.row true 0 1 [.string ByteArray.empty,.slice none 0 0,.slice none 0 0,.slice none 0 0,.slice none 0 0]))
 have hall:=AllOK.bs hE hbs (by rw[hsz];exact hb)
 obtain⟨o,HP,eP,hP⟩:=parse_any hE rfl hall (by rw[hsz];exact hb) hx
 rw[hsz]at eP
 have n0:∀ o,(H.push o).n=H.n+1:=fun _=>rfl
 simp only[n0]at eP cv
 have g0:((H.push (.row true 0 1 [.string ByteArray.empty,.slice none 0 0,.slice none 0 0,.slice none 0 0,.slice none 0 0])).push (.row true 1 1 (bytesOf b))).get H.n = .row true 0 1 [.string ByteArray.empty,.slice none 0 0,.slice none 0 0,.slice none 0 0,.slice none 0 0]:=by
  rw[Heap.get_push_lt _ _ (Nat.lt_succ_self _),Heap.get_push_self]
 cases res with
 | inr f =>
  obtain⟨c,a⟩:=f
  have hc:=parseP_bad hx
  obtain⟨kP,rfl⟩:=hP
  have g1:=kP.at g0 (by simp) (fun h=>h)
  simp only[sr5,nl]at eP
  obtain⟨kK,gK,nK⟩:=stK_facts HP [.string ByteArray.empty,.slice none 0 0,.slice none 0 0,.slice none 0 0,.slice none 0 0] [.string ByteArray.empty,.slice none 0 0,.slice none 0 0,.slice none 0 0,.slice none 0 0] c a
  have g2:=kK.at g1 (by simp) (fun h=>h)
  simp[Tryz.f5,cv,eP,hc]
  generalize (((HP.push (.row true 0 1 [.string ByteArray.empty,.slice none 0 0,.slice none 0 0,.slice none 0 0,.slice none 0 0])).push (.row true 0 1 [.int .i64 0,.int .i64 0])).set HP.n (.row true 0 1 [.string ByteArray.empty,.slice none 0 0,.slice none 0 0,.slice none 0 0,.slice none 0 0])).set (HP.n+1) (.row true 0 1 [.int .i64 c,.int .i64 a])=K at *
  have g3:∀ o,(K.set H.n o).get H.n=o:=fun o=>Heap.get_set_self _ _ (Heap.lt_of_get g2 (by simp))
  simp[g2,g3]
  refine⟨((kH.trans kP).trans kK).then_set (Heap.lt_of_get g2 (by simp)) (.inr (Nat.le_refl _)) _,_,_,_,_,_,_,_,_,_,_,_,_,_,_,_,_,rfl,rfl⟩
 | inl S =>
  obtain⟨kP,cs,rfl,hRS⟩:=hP
  have sok:=parse_ok hx
  rw[hsz]at sok
  obtain⟨y,a1,a2,a3,b1,b2,b3,c1,c2,c3,d1,d2,d3,rfl⟩:=hRS.slices
  have g1:=kP.at g0 (by simp) (fun h=>h)
  simp only[sr5]at eP
  have hsz2:=sok.size
  have hlp:=Parse.szPs_len S.procs
  obtain⟨kK,gK,nK⟩:=stK_facts HP [.string ByteArray.empty,.slice none 0 0,.slice none 0 0,.slice none 0 0,.slice none 0 0] [.string y,.slice a1 a2 a3,.slice b1 b2 b3,.slice c1 c2 c3,.slice d1 d2 d3] 0 0
  have g2:=kK.at g1 (by simp) (fun h=>h)
  have hRS2:=hRS.move (S':=fun i=>H.n<i∧i<HP.n+2) kK (fun j hj hlt=>⟨⟨by have hj:H.n+1+1≤j:=hj;omega,by omega⟩,fun h=>h⟩)
  simp[Tryz.f5,cv,eP]
  generalize (((HP.push (.row true 0 1 [.string ByteArray.empty,.slice none 0 0,.slice none 0 0,.slice none 0 0,.slice none 0 0])).push (.row true 0 1 [.int .i64 0,.int .i64 0])).set HP.n (.row true 0 1 [.string y,.slice a1 a2 a3,.slice b1 b2 b3,.slice c1 c2 c3,.slice d1 d2 d3])).set (HP.n+1) (.row true 0 1 [.int .i64 0,.int .i64 0])=K at *
  have hdn:∀ d∈S.decls,d.kind≠1→d.kind≠2→d.n≤1099511627776:=fun d hd k1 k2=>by
   have:=sok.decls d hd
   have:=this.n2 (by have:=this.k1;omega)
   omega
  have hpq:∀ p∈S.procs,p.params.length+p.vars.length≤100000:=fun p hp=>by
   have:=Parse.szPs_mem hp
   unfold szP at this
   omega
  obtain⟨oB,KB,eB,hB⟩:=Scope.build_run hE (one:=procB) (.inr (proc_ok8 hE)) (RSrc.move (Same.refl (fun _=>False) K) (fun j hj _=>⟨by rw[nK];exact hj.2,fun h=>h⟩) hRS2) hdn hpq (by omega) (by omega)
  have kB:=hB.1
  have both:=both_build S sok.decls
  simp only[sr5]at eB
  have kHB:Same (fun _=>False) H KB:=((kH.trans kP).trans kK).trans kB
  have gKB:=kB.at gK (by simp) (fun h=>h)
  have g2B:=kB.at g2 (by simp) (fun h=>h)
  have gKB1:∀ o,(KB.push o).get HP.n=_:=fun o=>(Heap.get_push_lt KB o (Heap.lt_of_get gKB (by simp))).trans gKB
  have g2B1:∀ o,(KB.push o).get H.n=_:=fun o=>(Heap.get_push_lt KB o (Heap.lt_of_get g2B (by simp))).trans g2B
  cases hb2:buildP procB S with
  | error e =>
   obtain⟨c,a⟩:=e
   rw[hb2]at hB both
   obtain⟨_,rfl⟩:=hB
   cases hr:rbuildB S with
   | ok R=>rw[hr]at both;exact both.elim
   | error e' =>
    rw[hr]at both
    have both:(c,a)=e':=both
    subst both
    obtain⟨oR,KR,eR,hRr⟩:=rbuild_run hE (H:=KB.push (.row true 0 1 [.int .i64 c,.int .i64 a])) (RSrc.move (kB.then_push _) (fun j hj _=>⟨by have:=kB.n;have:=hj.2;simp;omega,fun h=>h⟩) hRS2) (fun d hd=>⟨(sok.decls d hd).k1,(sok.decls d hd).k4⟩) hpq (by omega) (by omega)
    rw[hr]at hRr
    obtain⟨kR,rfl⟩:=hRr
    try simp only[sr5]at eR
    have kRp:Same (fun _=>False) (KB.push (.row true 0 1 [.int .i64 c,.int .i64 a])) (KR.push (.row true 0 1 [.int .i64 c,.int .i64 a])):=kR.then_push _
    have g8:=kRp.at (Heap.get_push_self KB _) (by simp) (fun h=>h)
    have gK8:=kRp.at (gKB1 _) (by simp) (fun h=>h)
    have g28:=kRp.at (g2B1 _) (by simp) (fun h=>h)
    have kHR:Same (fun _=>False) H (KR.push (.row true 0 1 [.int .i64 c,.int .i64 a])):=(kHB.trans (Same.push _ _ _)).trans kRp
    simp[gK,eB,gKB1,eR]
    generalize KR.push (.row true 0 1 [.int .i64 c,.int .i64 a])=K2 at *
    have g3:∀ o,(K2.set H.n o).get H.n=o:=fun o=>Heap.get_set_self _ _ (Heap.lt_of_get g28 (by simp))
    have kF:=fun o=>kHR.then_set (Heap.lt_of_get g28 (by simp)) (.inr (Nat.le_refl _)) o
    by_cases hc0:c=0
    · subst hc0
      simp[g8,gK8,g28,g3]
      refine⟨kF _,_,_,_,_,_,_,_,_,_,_,_,_,_,_,_,_,rfl,?_⟩
      simp only[]
      rw[hr]
      exact trivial
    · simp[g8,gK8,g28,g3,hc0]
      refine⟨kF _,_,_,_,_,_,_,_,_,_,_,_,_,_,_,_,_,rfl,?_⟩
      simp only[]
      rw[hr]
      exact trivial
  | ok T =>
   rw[hb2]at hB both
   obtain⟨_,colT,tid,nid,pid,rid,v1,v2,v3,v4,v5,rfl,hT,zT⟩:=hB
   cases hr:rbuildB S with
   | error e'=>rw[hr]at both;exact both.elim
   | ok R =>
    rw[hr]at both
    have ha:Scope.Agree T R:=both
    have hok:=build_tok hdn hb2
    have rok:=build_rok hok ha (by omega) hr
    have hgd:=build_good sok.decls hr
    obtain⟨oR,KR,eR,hRr⟩:=rbuild_run hE (H:=KB.push (.row true 0 1 [.int .i64 0,.int .i64 0])) (RSrc.move (kB.then_push _) (fun j hj _=>⟨by have:=kB.n;have:=hj.2;simp;omega,fun h=>h⟩) hRS2) (fun d hd=>⟨(sok.decls d hd).k1,(sok.decls d hd).k4⟩) hpq (by omega) (by omega)
    rw[hr]at hRr
    obtain⟨kR,colR,rtid,w1,w2,w3,w4,w5,w6,rfl,hR,zR⟩:=hRr
    try simp only[sr5]at eR
    have kRp:Same (fun _=>False) (KB.push (.row true 0 1 [.int .i64 0,.int .i64 0])) (KR.push (.row true 0 1 [.int .i64 0,.int .i64 0])):=kR.then_push _
    have g8:=kRp.at (Heap.get_push_self KB _) (by simp) (fun h=>h)
    have gK8:=kRp.at (gKB1 _) (by simp) (fun h=>h)
    have g28:=kRp.at (g2B1 _) (by simp) (fun h=>h)
    have kHR:Same (fun _=>False) H (KR.push (.row true 0 1 [.int .i64 0,.int .i64 0])):=(kHB.trans (Same.push _ _ _)).trans kRp
    have hTR:=hT.keep (((Same.push _ _ _).trans kRp):Same (fun _=>False) KB _) (fun _ h=>h.elim)
    have hRR:=hR.keep (Same.push (fun _=>False) KR (.row true 0 1 [.int .i64 0,.int .i64 0])) (fun _ h=>h.elim)
    have hSR:=RSrc.move (S':=fun i=>H.n<i∧i<HP.n+2) ((kB.trans (Same.push _ _ _)).trans kRp) (fun j hj _=>⟨hj,fun h=>h⟩) hRS2
    simp[gK,eB,gKB1,eR]
    generalize KR.push (.row true 0 1 [.int .i64 0,.int .i64 0])=K2 at *
    have hln:H.n<K2.n:=Heap.lt_of_get g28 (by simp)
    have g3:∀ o,(K2.set H.n o).get H.n=o:=fun o=>Heap.get_set_self _ _ hln
    have kF:=fun o=>kHR.then_set hln (.inr (Nat.le_refl _)) o
    simp[g8,gK8,g28,g3]
    have kS:∀ o,Same (fun i=>i=H.n) K2 (K2.set H.n o):=fun o=>Same.then_set (X:=fun i=>i=H.n) (Same.refl _ _) hln (.inl rfl) o
    have lKH:H.n<K.n:=Heap.lt_of_get g2 (by simp)
    refine⟨kF _,_,_,_,_,_,_,_,_,_,_,_,_,_,_,_,_,rfl,?_⟩
    simp only[]
    rw[hr]
    refine⟨trivial,tid,rtid,b.size+1,colT,colR,T,nid,pid,rid,v1,v2,v3,v4,v5,w1,w2,w3,w4,w5,w6,rfl,rfl,hTR.keep (kS _) (fun i hi => ?_),hRR.keep (kS _) (fun i hi => ?_),ha,hok,rok,hgd,hSR.move (kS _) (fun j hj _=>⟨trivial,fun e=>by have:=hj.1;omega⟩),sok,by omega⟩
    · subst hi
      exact zT _ lKH
    · subst hi
      exact zR _ (by have:=kB.n;simp;omega)
theorem c_fault27 (args:List Value)(H:Heap):(run Tryz.prog E).call 11 args H=callB Tryz.prog E Tryz.f11 args H:=call_B Tryz.func11 rfl (by decide +kernel) (hE.no _ rfl rfl) args H
theorem fault_run {H:Heap}{b:ByteArray}(hb:b.size≤4096){n:Nat}{res:Src ⊕ (Int × Int)}(hx:parseP branP b.data.toList n=some res) :
  ∃ H',(run Tryz.prog E).call 11 [.string b] H=some (.val (.agg ⟨[.int .i64 (faultP res).1,.int .i64 (faultP res).2]⟩),H')∧Same (fun _=>False) H H':=by
 suffices key:Gives ((run Tryz.prog E).call 11 [.string b] H) fun o H'=>o = .val (.agg ⟨[.int .i64 (faultP res).1,.int .i64 (faultP res).2]⟩)∧Same (fun _=>False) H H' by
  obtain⟨o,H',e,rfl,k⟩:=key
  exact⟨H',e,k⟩
 rw[c_fault27 hE,callB,bodyOf]
 obtain⟨o,H1,e1,k1,y,a1,a2,a3,b1,b2,b3,c1,c2,c3,d1,d2,d3,t,w,f,rfl,hf⟩:=front_run hE (H:=H.push (.row true 0 1 [.int .i64 0,.int .i64 0])) hb hx
 simp only[sr5]at e1
 have kH1:Same (fun _=>False) H H1:=Same.trans (Same.push _ _ _) k1
 have g1:=k1.at (Heap.get_push_self H (.row true 0 1 [.int .i64 0,.int .i64 0])) (by simp) (fun h=>h)
 have l1:=Heap.lt_of_get g1 (by simp)
 have kp:Same (fun _=>False) H1 (H1.push (.row true 0 1 [.string y,.slice a1 a2 a3,.slice b1 b2 b3,.slice c1 c2 c3,.slice d1 d2 d3])):=Same.push _ _ _
 have g2:=kp.at g1 (by simp) (fun h=>h)
 have gs:(H1.push (.row true 0 1 [.string y,.slice a1 a2 a3,.slice b1 b2 b3,.slice c1 c2 c3,.slice d1 d2 d3])).get H1.n=_:=Heap.get_push_self H1 _
 cases f with
 | false =>
  have hp:faultP res=(4,0):=by
   unfold faultP
   cases res with
   | inr q=>rfl
   | inl S =>
    simp only[]at hf ⊢
    cases hr:rbuildB S with
    | error q=>rfl
    | ok R=>rw[hr]at hf;cases hf.1
  rw[hp]
  have l2:=Heap.lt_of_get g2 (by simp)
  have g3:∀ o,((H1.push (.row true 0 1 [.string y,.slice a1 a2 a3,.slice b1 b2 b3,.slice c1 c2 c3,.slice d1 d2 d3])).set H.n o).get H.n=o:=fun o=>Heap.get_set_self _ _ l2
  simp[Tryz.f11,e1,g2,g3]
  exact (kH1.trans kp).then_set l2 (.inr (Nat.le_refl _)) _
 | true =>
  cases res with
  | inr q=>cases hf
  | inl S =>
   simp only[]at hf
   cases hr:rbuildB S with
   | error q=>rw[hr]at hf;cases hf
   | ok R =>
    rw[hr]at hf
    obtain⟨_,tid,rtid,n,col,col',T,nid,pid,rid,v1,v2,v3,v4,v5,w1,w2,w3,w4,w5,w6,rfl,rfl,hT,hR,ha,hok,rok,hgd,hS,sok,hn⟩:=hf
    have hp:faultP (.inl S)=(fc (checkB R S),fa (checkB R S)):=by unfold faultP;simp only[];rw[hr]
    rw[hp]
    obtain⟨K,e2,k2⟩:=tcheck_run hE ha hok hgd (hT.keep kp fun _ h=>h.elim) (hS.move kp fun j hj _=>⟨hj,fun h=>h⟩) sok hn
    simp only[sr5]at e2
    have gK:=k2.at g2 (by simp) (fun h=>h)
    have lK:=Heap.lt_of_get gK (by simp)
    have g3:∀ o,(K.set H.n o).get H.n=o:=fun o=>Heap.get_set_self _ _ lK
    simp[Tryz.f11,e1,e2,gK,g3]
    exact ((kH1.trans kp).trans k2).then_set lK (.inr (Nat.le_refl _)) _
end
def kindP (f:Option Flt)(n:Int):Int:=match f with
 | none=>n
 | some _=>0
theorem RE.six {H:Heap}{S:Nat→Prop}{x:Ex}{cs:List Value}(h:RE H S x cs):∃ k a n o y b m,cs=[.int .i64 k,.int .i64 a,.int .i64 n,.int .i64 o,.string y,.slice b m m]:=by
 obtain⟨kind,at_,num,op,name,sub⟩:=x
 simp only[RE]at h
 obtain⟨v,rfl,h⟩:=h
 rcases h with⟨rfl,_⟩ | ⟨id,tl,cs',rfl,_⟩
 · exact⟨_,_,_,_,_,_,_,rfl⟩
 · exact⟨_,_,_,_,_,_,_,rfl⟩
theorem pl_ttype:planOf Tryz.prog (drawN Tryz.f10 0)=some [none,some (0,1),none,none]:=by decide +kernel
section
variable {E:Hooks} (hE:Plain E)
include hE
theorem c_ttype1 (args:List Value)(H:Heap):(run Tryz.prog E).call 23 args H=callB Tryz.prog E Tryz.f23 args H:=call_B Tryz.func23 rfl (by decide +kernel) (hE.no _ rfl rfl) args H
theorem c_ttype (args:List Value)(H:Heap):(run Tryz.prog E).call 10 args H=callB Tryz.prog E Tryz.f10 args H:=call_B Tryz.func10 rfl (by decide +kernel) (hE.no _ rfl rfl) args H
variable {R:RT} {T:Tab} (ha:Scope.Agree T R) (hok:TOK T) (hgd:RGood R)
include ha hok hgd
theorem ttype1_run {H0:Heap}{tid:Nat}{col:Nat→Nat}{nid pid rid:Nat}{v1 v2 v3 v4 v5:Value}(hT:RTab H0 col tid nid pid rid v1 v2 v3 v4 v5 T){S:Nat→Prop}{x:Ex}{xs:List Value}(hx:RE H0 S x xs)(wf:WFx x){p:Int}
  {ti pi xi ki:Nat} (gt:H0.get ti = .row true 0 1 [.pointer (some ⟨tid,0,none⟩)]) (gp:H0.get pi = .row true 0 1 [.int .i64 p]) (gx:H0.get xi = .row true 0 1 xs) (gk:H0.get ki = .row true 0 1 [.int .i64 0]) :
  ∃ H',(run Tryz.prog E).call 23 [.pointer (some ⟨ti,0,none⟩),.pointer (some ⟨pi,0,none⟩),.pointer (some ⟨xi,0,none⟩),.pointer (some ⟨ki,0,none⟩)] H0=some (outF (exB R ⟨p,[],ByteArray.empty⟩ x),H')∧Same (fun i=>i=ki) H0 H'∧H'.get ki = .row true 0 1 [.int .i64 (kindP (exB R ⟨p,[],ByteArray.empty⟩ x) (tyP x))]:=by
 suffices key:Gives ((run Tryz.prog E).call 23 [.pointer (some ⟨ti,0,none⟩),.pointer (some ⟨pi,0,none⟩),.pointer (some ⟨xi,0,none⟩),.pointer (some ⟨ki,0,none⟩)] H0) fun o H'=>o=outF (exB R ⟨p,[],ByteArray.empty⟩ x)∧Same (fun i=>i=ki) H0 H'∧H'.get ki = .row true 0 1 [.int .i64 (kindP (exB R ⟨p,[],ByteArray.empty⟩ x) (tyP x))] by
  obtain⟨o,H',e,rfl,k⟩:=key
  exact⟨H',e,k⟩
 have c0:=CT.fresh1 (Same.refl (fun _=>False) H0) tid p
 have gxp:∀ o,(H0.push o).get xi = .row true 0 1 xs:=fun o=>(Heap.get_push_lt H0 o (Heap.lt_of_get gx (by simp))).trans gx
 obtain⟨K,e1,k1⟩:=texpr_run hE hT ha hok hgd _ x (Nat.lt_succ_self _) wf c0 hx
 have kK:Same (fun _=>False) H0 K:=Same.trans (Same.push _ _ _) k1
 have gkK:=kK.at gk (by simp) (fun h=>h)
 have lk:=Heap.lt_of_get gkK (by simp)
 obtain⟨q1,q2,q3,q4,y,b,m,rfl⟩:=Typing.RE.six hx
 rw[c_ttype1 hE,callB,bodyOf]
 cases hf:exB R ⟨p,[],ByteArray.empty⟩ x with
 | some q =>
  rw[hf]at e1
  simp only[outX]at e1
  simp[Tryz.f23,gt,gp,gxp,e1,outF,kindP]
  exact⟨kK.none,gkK⟩
 | none =>
  rw[hf]at e1
  simp only[outX]at e1
  simp[Tryz.f23,gt,gp,gxp,e1,outF,kindP,gkK]
  exact⟨Same.then_set (X:=fun i=>i=ki) kK.none lk (.inl rfl) _,Heap.get_set_self _ _ lk⟩
theorem ttype_run {H:Heap}{tid:Nat}{col:Nat→Nat}{nid pid rid:Nat}{v1 v2 v3 v4 v5:Value}(hT:RTab H col tid nid pid rid v1 v2 v3 v4 v5 T){S:Nat→Prop}{x:Ex}{xs:List Value}(hx:RE H S x xs)(wf:WFx x){p:Int}{y:ByteArray}{a1 b1 c1 d1:Option Addr}{a2 a3 b2 b3 c2 c3 d2 d3:Nat} :
  ∃ H',(run Tryz.prog E).call 10 [.agg ⟨[.string y,.slice a1 a2 a3,.slice b1 b2 b3,.slice c1 c2 c3,.slice d1 d2 d3]⟩,.pointer (some ⟨tid,0,none⟩),.int .i64 p,.agg ⟨xs⟩] H=some (.val (.tuple #[.int .i64 (kindP (exB R ⟨p,[],ByteArray.empty⟩ x) (tyP x)),.agg ⟨[.int .i64 (fc (exB R ⟨p,[],ByteArray.empty⟩ x)),.int .i64 (fa (exB R ⟨p,[],ByteArray.empty⟩ x))]⟩]),H')∧Same (fun _=>False) H H':=by
 suffices key:Gives ((run Tryz.prog E).call 10 [.agg ⟨[.string y,.slice a1 a2 a3,.slice b1 b2 b3,.slice c1 c2 c3,.slice d1 d2 d3]⟩,.pointer (some ⟨tid,0,none⟩),.int .i64 p,.agg ⟨xs⟩] H) fun o H'=>o = .val (.tuple #[.int .i64 (kindP (exB R ⟨p,[],ByteArray.empty⟩ x) (tyP x)),.agg ⟨[.int .i64 (fc (exB R ⟨p,[],ByteArray.empty⟩ x)),.int .i64 (fa (exB R ⟨p,[],ByteArray.empty⟩ x))]⟩])∧Same (fun _=>False) H H' by
  obtain⟨o,H',e,rfl,k⟩:=key
  exact⟨H',e,k⟩
 obtain⟨q1,q2,q3,q4,z,b,m,rfl⟩:=Typing.RE.six hx
 obtain⟨Hb,hHb⟩:∃ Hb,Hb=(((((H.push (.row true 0 1 [.string y,.slice a1 a2 a3,.slice b1 b2 b3,.slice c1 c2 c3,.slice d1 d2 d3])).push (.row true 0 1 [.pointer (some ⟨tid,0,none⟩)])).push (.row true 0 1 [.int .i64 p])).push (.row true 0 1 [.int .i64 q1,.int .i64 q2,.int .i64 q3,.int .i64 q4,.string z,.slice b m m])).push (.row true 0 1 [.int .i64 0])).push (.row true 0 1 [.int .i64 0,.int .i64 0]):=⟨_,rfl⟩
 have kb:Same (fun _=>False) H Hb:=by rw[hHb];exact (((((Same.push _ _ _).then_push _).then_push _).then_push _).then_push _).then_push _
 have nb:Hb.n=H.n+6:=by rw[hHb];rfl
 have gt:Hb.get (H.n+1) = .row true 0 1 [.pointer (some ⟨tid,0,none⟩)]:=by rw[hHb];simp[Heap.get_push]
 have gp:Hb.get (H.n+2) = .row true 0 1 [.int .i64 p]:=by rw[hHb];simp[Heap.get_push]
 have gx:Hb.get (H.n+3) = .row true 0 1 [.int .i64 q1,.int .i64 q2,.int .i64 q3,.int .i64 q4,.string z,.slice b m m]:=by rw[hHb];simp[Heap.get_push]
 have gk:Hb.get (H.n+4) = .row true 0 1 [.int .i64 0]:=by rw[hHb];simp[Heap.get_push]
 have gf:Hb.get (H.n+5) = .row true 0 1 [.int .i64 0,.int .i64 0]:=by rw[hHb];simp[Heap.get_push]
 have kq:Same (fun _=>False) Hb (Hb.push (.row true 0 1 [.int .i64 0,.int .i64 0])):=Same.push _ _ _
 obtain⟨K,e1,k1,g1⟩:=ttype1_run hE ha hok hgd (hT.keep (kb.trans kq) fun _ h=>h.elim) (RE.move (S':=fun _=>True) (kb.trans kq) (fun _ _ _=>⟨trivial,fun h=>h⟩) _ _ hx) wf (kq.at gt (by simp) fun h=>h) (kq.at gp (by simp) fun h=>h) (kq.at gx (by simp) fun h=>h) (kq.at gk (by simp) fun h=>h)
 obtain⟨K2,e2,k2',k3⟩:=tcaught_run hE e1 k1 fun i h=>by omega
 have k2:=k2'
 have gk2:=k3.at g1 (by simp) (by omega)
 have gf2:=k2.at gf (by simp) (by omega)
 have lf:=Heap.lt_of_get gf2 (by simp)
 have gf3:∀ o,(K2.set (H.n+5) o).get (H.n+5)=o:=fun o=>Heap.get_set_self _ _ lf
 have gk3:∀ o,(K2.set (H.n+5) o).get (H.n+4)=_:=fun o=>(Heap.get_set_ne _ _ o lf _ (by omega)).trans gk2
 rw[c_ttype hE,callB,bodyOf]
 simp[Tryz.f10,← hHb,e2,gf2]
 refine region_plan (by exact pl_ttype) ?_
 have lk0:H.n+4<K2.n:=Heap.lt_of_get gk2 (by simp)
 have lk:∀ o,H.n+1+1+1+1<(K2.set (H.n+1+1+1+1+1) o).n:=fun o=>lk0
 have lf':H.n+1+1+1+1+1<K2.n:=lf
 have lf2:∀ o o',H.n+1+1+1+1+1<((K2.set (H.n+1+1+1+1+1) o).set (H.n+1+1+1+1) o').n:=fun _ _=>lf
 have s1:∀ o o',((K2.set (H.n+1+1+1+1+1) o).set (H.n+1+1+1+1) o').get (H.n+1+1+1+1)=o':=fun o o'=>Heap.get_set_self _ _ (lk o)
 have s4:∀ o o',((K2.set (H.n+1+1+1+1+1) o).set (H.n+1+1+1+1) o').get (H.n+1+1+1+1+1)=o:=fun o o'=>(Heap.get_set_ne _ _ _ (lk o) _ (by omega)).trans (Heap.get_set_self _ _ lf')
 have s2:∀ o o' o'',(((K2.set (H.n+1+1+1+1+1) o).set (H.n+1+1+1+1) o').set (H.n+1+1+1+1+1) o'').get (H.n+1+1+1+1+1)=o'':=fun o o' o''=>Heap.get_set_self _ _ (lf2 o o')
 have s3:∀ o o' o'',(((K2.set (H.n+1+1+1+1+1) o).set (H.n+1+1+1+1) o').set (H.n+1+1+1+1+1) o'').get (H.n+1+1+1+1)=o':=fun o o' o''=>(Heap.get_set_ne _ _ _ (lf2 o o') _ (by omega)).trans (s1 o o')
 simp[drawF,gf3,gk3,s1,s2,s3,s4]
 exact ((Same.then_set (kb.then k2 fun i hi => .inr (by omega)) lf (.inr (by omega)) _).then_set (lk _) (.inr (by omega)) _).then_set (lf2 _ _) (.inr (by omega)) _
end
end Go.Vm.Typing
namespace Go.Vm.Typing
open Go Go.Proofs Go.Vm.Parse Go.Vm.Scope
attribute [local simp] repCells_succ writeAt rd_Fr toList_beq gpe gpn spe gse gsn
theorem plain0:Plain noHooks:=⟨fun _ _ _=>rfl⟩
theorem E0_ok (N:Th)(W0:World):CallOK Tryz.prog N W0 noHooks.run:=noHooks_ok
theorem src_of {α:Type}{b:ByteArray}{n:Nat}{g:Src ⊕ (Int × Int)→α}{v:α}(h:(parseP branP b.data.toList n).map g=some v):∃ res,parseP branP b.data.toList n=some res∧g res=v:=by
 cases hp:parseP branP b.data.toList n with
 | none=>rw[hp]at h;cases h
 | some res =>
  rw[hp]at h
  simp only[Option.map_some,Option.some.injEq]at h
  exact⟨res,rfl,h⟩
def frontG:Src ⊕ (Int × Int)→Bool
 | .inl S => match rbuildB S with
  | .ok R=>(exB R ⟨0,[],ByteArray.empty⟩ (.mk 3 0 0 0 ⟨#[103]⟩ [])).isNone
  | .error _=>false
 | .inr _=>false
theorem gives_fault {b:ByteArray}{c a:Int}(hb:decide (b.size≤4096)=true)(h:(parseP branP b.data.toList 300).map faultP=some (c,a)){H:Heap}{Q:Out→Heap→Prop}(hk:∀ H',Same (fun _=>False) H H'→Q (.val (.agg ⟨[.int .i64 c,.int .i64 a]⟩)) H') :
  Gives ((run Tryz.prog noHooks).call 11 [.string b] H) Q:=by
 obtain⟨res,hx,hg⟩:=src_of h
 obtain⟨H',e,k⟩:=fault_run plain0 (H:=H) (of_decide_eq_true hb) hx
 rw[hg]at e
 exact⟨_,_,e,hk H' k⟩
theorem gives_front {b:ByteArray}(hb:decide (b.size≤4096)=true)(h:(parseP branP b.data.toList 300).map frontG=some true){H:Heap}{Q:Out→Heap→Prop}
  (hk:∀ (H':Heap) y a1 a2 a3 b1 b2 b3 c1 c2 c3 d1 d2 d3 tid rtid (R:RT) (col:Nat→Nat) (T:Tab) nid pid rid v1 v2 v3 v4 v5,RTab H' col tid nid pid rid v1 v2 v3 v4 v5 T→Scope.Agree T R→TOK T→RGood R→exB R ⟨0,[],ByteArray.empty⟩ (.mk 3 0 0 0 ⟨#[103]⟩ [])=none →
   Q (.val (.tuple #[.agg ⟨[.string y,.slice a1 a2 a3,.slice b1 b2 b3,.slice c1 c2 c3,.slice d1 d2 d3]⟩,.pointer (some ⟨tid,0,none⟩),.pointer (some ⟨rtid,0,none⟩),.bool true])) H') :
  Gives ((run Tryz.prog noHooks).call 5 [.string b] H) Q:=by
 obtain⟨res,hx,hg⟩:=src_of h
 obtain⟨o,H1,e1,k1,y,a1,a2,a3,b1,b2,b3,c1,c2,c3,d1,d2,d3,t,w,f,rfl,hf⟩:=front_run plain0 (H:=H) (of_decide_eq_true hb) hx
 refine⟨_,_,e1,?_⟩
 cases res with
 | inr q=>cases hg
 | inl S =>
  simp only[frontG]at hg
  simp only[]at hf
  cases hr:rbuildB S with
  | error q=>rw[hr]at hg;cases hg
  | ok R =>
   rw[hr]at hf hg
   obtain⟨rfl,tid,rtid,n,col,col',T,nid,pid,rid,v1,v2,v3,v4,v5,w1,w2,w3,w4,w5,w6,rfl,rfl,hT,hR,ha,hok,rok,hgd,hS,sok,hn⟩:=hf
   exact hk H1 _ _ _ _ _ _ _ _ _ _ _ _ _ _ _ R _ _ _ _ _ _ _ _ _ _ hT ha hok hgd (by simpa using hg)
theorem c_awake27 (args:List Value)(H:Heap):(run Tryz.prog noHooks).call 4 args H=callB Tryz.prog noHooks Tryz.f4 args H:=call_B Tryz.func4 rfl (by decide +kernel) rfl args H
theorem awake27 (H:Heap):∃ H',(run Tryz.prog noHooks).call 4 [] H=some (.val (.bool true),H'):=by
 suffices key:Gives ((run Tryz.prog noHooks).call 4 [] H) fun o H'=>o = .val (.bool true) by
  obtain⟨o,H',e,rfl⟩:=key
  exact⟨H',e⟩
 rw[c_awake27,callB,bodyOf]
 simp[Tryz.f4]
 refine gives_front (by decide +kernel) (by decide +kernel) ?_
 intro H1 y a1 a2 a3 b1 b2 b3 c1 c2 c3 d1 d2 d3 tid rtid R col T nid pid rid v1 v2 v3 v4 v5 hT ha hok hgd hx
 have kp:Same (fun _=>False) H1 (H1.push (.row true 0 1 [.string y,.slice a1 a2 a3,.slice b1 b2 b3,.slice c1 c2 c3,.slice d1 d2 d3])):=Same.push _ _ _
 have gs:(H1.push (.row true 0 1 [.string y,.slice a1 a2 a3,.slice b1 b2 b3,.slice c1 c2 c3,.slice d1 d2 d3])).get H1.n=_:=Heap.get_push_self H1 _
 obtain⟨K,e2,k2⟩:=ttype_run plain0 ha hok hgd (hT.keep kp fun _ h=>h.elim) (x := .mk 3 0 0 0 ⟨#[103]⟩ []) (S:=fun _=>True) (xs:=[.int .i64 3,.int .i64 0,.int .i64 0,.int .i64 0,.string ⟨#[103]⟩,.slice none 0 0]) (by simp[RE]) (by simp[WFx,WFxs,ExOK,most]) (p:=0) (y:=y) (a1:=a1) (b1:=b1) (c1:=c1) (d1:=d1) (a2:=a2) (a3:=a3) (b2:=b2) (b3:=b3) (c2:=c2) (c3:=c3) (d2:=d2) (d3:=d3)
 rw[hx]at e2
 have hty:tyP (.mk 3 0 0 0 ⟨#[103]⟩ [])=1:=by simp[tyP]
 simp only[kindP,fc,fa,hty]at e2
 simp[gs,e2]
 refine gives_fault (c:=0) (a:=0) (by decide +kernel) (by decide +kernel) fun _ _ => ?_
 simp[fault_eql]
 refine gives_fault (c:=21) (a:=29) (by decide +kernel) (by decide +kernel) fun _ _ => ?_
 simp[fault_eql]
 refine gives_fault (c:=22) (a:=27) (by decide +kernel) (by decide +kernel) fun _ _ => ?_
 simp[fault_eql]
 refine gives_fault (c:=23) (a:=48) (by decide +kernel) (by decide +kernel) fun _ _ => ?_
 simp[fault_eql]
 refine gives_fault (c:=18) (a:=17) (by decide +kernel) (by decide +kernel) fun _ _ => ?_
 simp[fault_eql]
 refine gives_fault (c:=18) (a:=17) (by decide +kernel) (by decide +kernel) fun _ _ => ?_
 simp[fault_eql]
theorem conv_nil (H:Heap):exConvert Tryz.prog 34 9 (.slice none 0 0) H=some (.string ⟨⟨[]⟩⟩,H):=by
 simp[exConvert,cellsOf,byteList]
end Go.Vm.Typing
namespace Go.Vm.Typing
open Go Go.Proofs Go.Vm.Parse Go.Vm.Scope
attribute [local simp] repCells_succ writeAt rd_Fr toList_beq gpe gpn spe gse gsn ne_r0 ne_l0 le_s0 ne_r1 ne_l1 lt_s1 le_s1 ne_r2 ne_l2 lt_s2 le_s2 ne_r3 ne_l3 lt_s3 le_s3 ne_r4 ne_l4 lt_s4 le_s4 ne_r5 ne_l5 lt_s5 le_s5 ne_r6 ne_l6 lt_s6 le_s6 ne_r7 ne_l7 lt_s7 le_s7
section
variable {E:Hooks} (hE:Plain E)
include hE
theorem all_long {H:Heap}{b:Option Addr}{n cap:Nat}(hn:4096<n):∃ H',(run Tryz.prog E).call 25 [.slice b n cap] H=some (.val (.tuple #[.slice none 0 0,.agg ⟨[.int .i64 16,.int .i64 4096]⟩]),H')∧Same (fun _=>False) H H':=by
 suffices key:Gives ((run Tryz.prog E).call 25 [.slice b n cap] H) fun o H'=>o = .val (.tuple #[.slice none 0 0,.agg ⟨[.int .i64 16,.int .i64 4096]⟩])∧Same (fun _=>False) H H' by
  obtain⟨o,H',e,rfl,k⟩:=key
  exact⟨H',e,k⟩
 rw[c_All hE,callB,bodyOf]
 simp[Tryz.f25,show (4096:Int)<n by omega]
 exact Same.push _ _ _
theorem parse_long {H:Heap}{b:Option Addr}{n cap:Nat}(hn:4096<n):∃ H',(run Tryz.prog E).call 12 [.slice b n cap] H=some (.val (.tuple #[.agg ⟨sr5 ByteArray.empty nl nl nl nl⟩,.agg ⟨[.int .i64 16,.int .i64 4096]⟩]),H')∧Same (fun _=>False) H H':=by
 suffices key:Gives ((run Tryz.prog E).call 12 [.slice b n cap] H) fun o H'=>o = .val (.tuple #[.agg ⟨sr5 ByteArray.empty nl nl nl nl⟩,.agg ⟨[.int .i64 16,.int .i64 4096]⟩])∧Same (fun _=>False) H H' by
  obtain⟨o,H',e,rfl,k⟩:=key
  exact⟨H',e,k⟩
 obtain⟨HA,eA,kA⟩:=all_long hE (H:=((H.push (.row true 0 1 (sr5 ByteArray.empty nl nl nl nl))).push (.row true 0 1 [.int .i64 0,.int .i64 0]))) (b:=b) (cap:=cap) hn
 have nA:=kA.n
 simp at nA
 have gA0:HA.get H.n = .row true 0 1 (sr5 ByteArray.empty nl nl nl nl):=kA.at (by rw[Heap.get_push,if_neg (by simp),Heap.get_push_self]) (by simp) (fun h=>h)
 have gA1:HA.get (H.n+1) = .row true 0 1 [.int .i64 0,.int .i64 0]:=kA.at (Heap.get_push_self _ _) (by simp) (fun h=>h)
 have kH:Same (fun _=>False) H HA:=((Same.push _ _ _).then_push _).trans kA
 have tA0:H.n<HA.n:=by omega
 have tA1:H.n+1<HA.n:=by omega
 rw[c_Parse hE,callB,bodyOf]
 simp only[sr5,nl]at gA0 eA
 simp[Tryz.f12,eA]
 refine region_plan (by exact pl_parse0) ?_
 simp[gA0,gA1,tA0,tA1]
 refine⟨?_,(kH.then_push _).then_set (by simp;omega) (.inr (by omega)) _ |>.then_set (by simp;omega) (.inr (by omega)) _⟩
 simp[sr5,nl]
theorem front_long {H:Heap}{b:ByteArray}(hb:4096<b.size):Gives ((run Tryz.prog E).call 5 [.string b] H) (FrontQ H (.inr (16,4096))):=by
 rw[c_front hE,callB,bodyOf]
 have cv:=conv_text2 b (H.push (.row true 0 1 [.string ByteArray.empty,.slice none 0 0,.slice none 0 0,.slice none 0 0,.slice none 0 0]))
 have kH:Same (fun _=>False) H ((H.push (.row true 0 1 [.string ByteArray.empty,.slice none 0 0,.slice none 0 0,.slice none 0 0,.slice none 0 0])).push (.row true 1 1 (bytesOf b))):=(Same.push _ _ _).then_push _
 obtain⟨HP,eP,kP⟩:=parse_long hE (H:=(H.push (.row true 0 1 [.string ByteArray.empty,.slice none 0 0,.slice none 0 0,.slice none 0 0,.slice none 0 0])).push (.row true 1 1 (bytesOf b))) (b:=some ⟨H.n+1,0,none⟩) (cap:=b.size) hb
 have n0:∀ o,(H.push o).n=H.n+1:=fun _=>rfl
 simp only[n0]at cv
 have g0:((H.push (.row true 0 1 [.string ByteArray.empty,.slice none 0 0,.slice none 0 0,.slice none 0 0,.slice none 0 0])).push (.row true 1 1 (bytesOf b))).get H.n = .row true 0 1 [.string ByteArray.empty,.slice none 0 0,.slice none 0 0,.slice none 0 0,.slice none 0 0]:=by
  rw[Heap.get_push_lt _ _ (Nat.lt_succ_self _),Heap.get_push_self]
 have g1:=kP.at g0 (by simp) (fun h=>h)
 simp only[sr5,nl]at eP
 obtain⟨kK,gK,nK⟩:=stK_facts HP [.string ByteArray.empty,.slice none 0 0,.slice none 0 0,.slice none 0 0,.slice none 0 0] [.string ByteArray.empty,.slice none 0 0,.slice none 0 0,.slice none 0 0,.slice none 0 0] 16 4096
 have g2:=kK.at g1 (by simp) (fun h=>h)
 simp[Tryz.f5,cv,eP]
 generalize (((HP.push (.row true 0 1 [.string ByteArray.empty,.slice none 0 0,.slice none 0 0,.slice none 0 0,.slice none 0 0])).push (.row true 0 1 [.int .i64 0,.int .i64 0])).set HP.n (.row true 0 1 [.string ByteArray.empty,.slice none 0 0,.slice none 0 0,.slice none 0 0,.slice none 0 0])).set (HP.n+1) (.row true 0 1 [.int .i64 16,.int .i64 4096])=K at *
 have g3:∀ o,(K.set H.n o).get H.n=o:=fun o=>Heap.get_set_self _ _ (Heap.lt_of_get g2 (by simp))
 simp[g2,g3]
 refine⟨((kH.trans kP).trans kK).then_set (Heap.lt_of_get g2 (by simp)) (.inr (Nat.le_refl _)) _,_,_,_,_,_,_,_,_,_,_,_,_,_,_,_,_,rfl,rfl⟩
end
end Go.Vm.Typing
namespace Go.Vm.Make
open Go Go.Proofs Go.Vm.Parse
attribute [local simp] repCells_succ writeAt rd_Fr toList_beq gpe gpn spe gse gsn ne_r0 ne_l0 le_s0 ne_r1 ne_l1 lt_s1 le_s1 ne_r2 ne_l2 lt_s2 le_s2 ne_r3 ne_l3 lt_s3 le_s3
def OutS (H:Heap)(S:Nat→Prop)(v:Value)(out:List UInt8):Prop :=
 (v = .slice none 0 0∧out=[])∨∃ id tl,v = .slice (some ⟨id,0,none⟩) out.length out.length∧tl≤1∧S id∧H.get id = .row true tl 1 (out.map byteC)
theorem OutS.slice {H:Heap}{S:Nat→Prop}{v:Value}{out:List UInt8}(h:OutS H S v out):∃ b,v = .slice b out.length out.length:=by
 rcases h with⟨rfl,rfl⟩ | ⟨id,tl,rfl,_⟩
 · exact⟨none,rfl⟩
 · exact⟨_,rfl⟩
theorem OutS.move {H H':Heap}{X S S':Nat→Prop}{v:Value}{out:List UInt8}(h:OutS H S v out)(k:Same X H H')(hs:∀ i,S i→i<H.n→S' i∧¬X i):OutS H' S' v out:=by
 refine h.imp id ?_
 rintro⟨id,tl,h1,h2,h3,h4⟩
 have:=hs id h3 (Heap.lt_of_get h4 (by simp))
 exact⟨id,tl,h1,h2,this.1,k.at h4 (by simp) this.2⟩
theorem out_app {H:Heap}{S:Nat→Prop}{v:Value}{out:List UInt8}(h:OutS H S v out)(s:ByteArray)(hl:out.length+s.size≤1000000000) :
  ∃ b' H',exAppend Tryz.prog [34,9] v (.string s) H=some (.slice b' (out.length+s.size) (out.length+s.size),H')∧OutS H' (fun i=>S i∨H.n≤i) (.slice b' (out.length+s.size) (out.length+s.size)) (out++s.data.toList)∧Same S H H':=by
 obtain⟨⟨l⟩⟩:=s
 have sz:(⟨⟨l⟩⟩:ByteArray).size=l.length:=rfl
 have e0:(⟨⟨l⟩⟩:ByteArray).data.toList=l:=rfl
 rw[sz]at hl ⊢
 rw[e0]
 have hc:cellsOf H 1 l.length (.string ⟨⟨l⟩⟩)=some (l.map byteC):=by simp[cellsOf,sz,byteC]
 by_cases h0:l=[]
 · subst h0
   simp only[List.length_nil,List.map_nil]at hc
   rcases h with⟨rfl,rfl⟩ | ⟨id,tl,rfl,h2,h3,h4⟩
   · refine⟨none,H,?_,.inl ⟨rfl,rfl⟩,Same.refl _ _⟩
     simp[exAppend,exAppendRow,sz,hc]
   · refine⟨some ⟨id,0,none⟩,H,?_,.inr ⟨id,tl,by simp,h2,.inl h3,by simpa using h4⟩,Same.refl _ _⟩
     simp only[List.length_nil]at hl
     simp[exAppend,exAppendRow,sz,hc,show (out.length+200)≤140737488355328 by omega,show out.length≤140737488355328 by omega,show out.length≤140737488355128 by omega]
 · have hn:¬l.length=0:=fun h=>h0 (List.length_eq_zero_iff.1 h)
   rcases h with⟨rfl,rfl⟩ | ⟨id,tl,rfl,h2,h3,h4⟩
   · simp only[List.length_nil,Nat.zero_add]at hl
     refine⟨some ⟨H.n,0,none⟩,H.push (.row true 1 1 (l.map byteC)),?_,.inr ⟨H.n,1,by simp,Nat.le_refl _,.inr (Nat.le_refl _),by simp[Heap.get_push]⟩,Same.push _ _ _⟩
     simp[exAppend,exAppendRow,sz,hc,h0,hn,show l.length+200≤140737488355328 by omega,show l.length≤140737488355328 by omega,show l.length≤140737488355128 by omega]
   · have hid:=Heap.lt_of_get h4 (by simp)
     have f1:(out.length+l.length+200)≤140737488355328:=by omega
     have f2:out.length+l.length≤140737488355328:=by omega
     have f3:¬out.length+l.length≤out.length:=by omega
     have f4:out.length+l.length≤140737488355128:=by omega
     have f5:(out.map byteC).take out.length=out.map byteC:=List.take_of_length_le (by simp)
     rcases (show tl=0∨tl=1 by omega)with rfl | rfl
     · refine⟨some ⟨H.n,0,none⟩,H.push (.row true 1 1 (out.map byteC++l.map byteC)),?_,.inr ⟨H.n,1,by simp,Nat.le_refl _,.inr (Nat.le_refl _),by simp[Heap.get_push]⟩,Same.push _ _ _⟩
       simp[exAppend,exAppendRow,sz,hc,h4,h0,hn,f1,f2,f3,f4,f5]
     · refine⟨some ⟨H.n,0,none⟩,(H.set id .dead).push (.row true 1 1 (out.map byteC++l.map byteC)),?_,.inr ⟨H.n,1,by simp,Nat.le_refl _,.inr (Nat.le_refl _),by simp[Heap.get_push]⟩,(Same.set H hid h3 _).then_push _⟩
       simp[exAppend,exAppendRow,sz,hc,h4,h0,hn,f1,f2,f3,f4,f5]
structure MK (H0 H:Heap)(mid:Nat)(nv:Value)(N:List Int)(lo hi:Nat)(p:Int)(inn:ByteArray)(a:Nat)(left:Int)(ov:Value)(out:List UInt8):Prop where
 kp:Same (fun i=>H0.n≤i) H0 H
 hm:H0.n≤mid
 obj:H.get mid = .row true 0 1 [nv,.int .i64 a,ov,.int .i64 p,.string inn,.int .i64 left]
 ha:a≤N.length
 go:OutS H (fun i=>H0.n≤i∧i≠mid) ov out
 lo:lo≤out.length
 hi:out.length≤hi
def MKx (H0 H:Heap)(mid:Nat)(nv:Value)(N:List Int)(lo hi:Nat)(p:Int)(inn:ByteArray):Prop:=∃ a left ov out,MK H0 H mid nv N lo hi p inn a left ov out
theorem MK.lt {H0 H:Heap}{mid:Nat}{nv:Value}{N:List Int}{lo hi:Nat}{p:Int}{inn:ByteArray}{a:Nat}{left:Int}{ov:Value}{out:List UInt8}(h:MK H0 H mid nv N lo hi p inn a left ov out):mid<H.n:=Heap.lt_of_get h.obj (by simp)
theorem MKx.more {H0 H:Heap}{mid:Nat}{nv:Value}{N:List Int}{lo hi:Nat}{p:Int}{inn:ByteArray}(h:MKx H0 H mid nv N lo hi p inn){hi':Nat}(hh:hi≤hi'):MKx H0 H mid nv N lo hi' p inn:=by
 obtain⟨a,left,ov,out,h⟩:=h
 exact⟨a,left,ov,out,h.kp,h.hm,h.obj,h.ha,h.go,h.lo,Nat.le_trans h.hi hh⟩
theorem MK.turn {H0 H:Heap}{mid:Nat}{nv:Value}{N:List Int}{lo hi:Nat}{p:Int}{inn:ByteArray}{a:Nat}{left:Int}{ov:Value}{out:List UInt8}(h:MK H0 H mid nv N lo hi p inn a left ov out){a':Nat}(ha:a'≤N.length)(p':Int)(inn':ByteArray)(left':Int) :
  MK H0 (H.set mid (.row true 0 1 [nv,.int .i64 a',ov,.int .i64 p',.string inn',.int .i64 left'])) mid nv N lo hi p' inn' a' left' ov out :=
 ⟨h.kp.then_set h.lt (.inl h.hm) _,h.hm,Heap.get_set_self _ _ h.lt,ha,h.go.move (X:=fun i=>i=mid) (Same.then_set (X:=fun i=>i=mid) (Same.refl _ _) h.lt (.inl rfl) _) fun i hi _=>⟨hi,hi.2⟩,h.lo,h.hi⟩
theorem q_next0:quiet Tryz.prog (drawN Tryz.f44 0)=true:=by decide +kernel
theorem q_next1:quiet Tryz.prog (drawN Tryz.f44 1)=true:=by decide +kernel
theorem SL.at {H:Heap}{nv:Value}{N:List Int}(h:SL H nv N){a:Nat}(ha:a<N.length):∃ r off own tl es cs cap,nv = .slice (some ⟨r,off,none⟩) N.length cap∧H.get r = .row own tl es cs∧∃ h:off+a<cs.length,cs[off+a]'h = .int .i64 N[a]:=by
 obtain⟨base,cap,rfl,⟨rfl,rfl⟩ | ⟨r,off,own,tl,es,cs,rfl,h2,h3,h4⟩⟩:=h
 · cases ha
 · refine⟨r,off,own,tl,es,cs,cap,rfl,h2,by omega,?_⟩
   have e:((cs.drop off).take N.length)[a]? = some (.int .i64 N[a]):=by rw[h4];simp[ha]
   rw[List.getElem?_take_of_lt ha,List.getElem?_drop]at e
   exact (List.getElem?_eq_some_iff.1 e).2
theorem SL.keep {H0 H:Heap}{nv:Value}{N:List Int}(h:SL H0 nv N)(k:Same (fun i=>H0.n≤i) H0 H):SL H nv N :=
 h.same fun i o e d=>k.at e d (by have:=Heap.lt_of_get e d;omega)
theorem slice_str (s:ByteArray)(r:Nat)(h:r+1≤s.size)(H:Heap):exSlice Tryz.prog 9 (.string s) (some (.int .i64 (r:Int))) (some (.int .i64 ((r:Int)+1))) none H=some (.string (s.extract r (r+1)),H):=by
 have h2:(r:Int)+1≤s.size:=by omega
 have h3:((r:Int)+1).toNat=r+1:=by omega
 simp[exSlice,boundOf,h2,h3,show (r:Int)≤(r:Int)+1 by omega]
section
variable {E:Hooks} (hE:Plain E)
include hE
theorem c_mput (args:List Value)(H:Heap):(run Tryz.prog E).call 42 args H=callB Tryz.prog E Tryz.f42 args H:=call_B Tryz.func42 rfl (by decide +kernel) (hE.no _ rfl rfl) args H
theorem c_mnext (args:List Value)(H:Heap):(run Tryz.prog E).call 44 args H=callB Tryz.prog E Tryz.f44 args H:=call_B Tryz.func44 rfl (by decide +kernel) (hE.no _ rfl rfl) args H
theorem put_ok {H0 H:Heap}{mid:Nat}{nv:Value}{N:List Int}{lo hi:Nat}{p:Int}{inn:ByteArray}(h:MKx H0 H mid nv N lo hi p inn)(s:ByteArray)(hs:hi+s.size≤1000000000) :
  ∃ H',(run Tryz.prog E).call 42 [.pointer (some ⟨mid,0,none⟩),.string s] H=some (.val (.tuple #[]),H')∧MKx H0 H' mid nv N (lo+s.size) (hi+s.size) p inn:=by
 suffices key:Gives ((run Tryz.prog E).call 42 [.pointer (some ⟨mid,0,none⟩),.string s] H) fun o H'=>o = .val (.tuple #[])∧MKx H0 H' mid nv N (lo+s.size) (hi+s.size) p inn by
  obtain⟨o,H',e,rfl,k⟩:=key
  exact⟨H',e,k⟩
 obtain⟨a,left,ov,out,h⟩:=h
 obtain⟨b',H2,e2,g2,k2⟩:=out_app h.go s (by have:=h.hi;omega)
 obtain⟨b,rfl⟩:=h.go.slice
 have o1:=h.obj
 have o2:=k2.at o1 (by simp) (fun z=>z.2 rfl)
 have l2:=Heap.lt_of_get o2 (by simp)
 rw[c_mput hE,callB,bodyOf]
 simp[Tryz.f42,o1,e2,o2]
 have sz:s.data.toList.length=s.size:=by obtain⟨⟨l⟩⟩:=s;rfl
 refine⟨a,left,_,out++s.data.toList,(h.kp.then k2 fun i hi => .inl hi.1).then_set l2 (.inl h.hm) _,h.hm,Heap.get_set_self _ _ l2,h.ha,g2.move (X:=fun i=>i=mid) (Same.then_set (X:=fun i=>i=mid) (Same.refl _ _) l2 (.inl rfl) _) ?_,?_,?_⟩
 · rintro i (hi | hi) _
   · exact⟨hi,hi.2⟩
   · have:=h.kp.n
     have:=h.lt
     exact⟨⟨by omega,by omega⟩,by omega⟩
 · have:=h.lo
   rw[List.length_append,sz];omega
 · have:=h.hi
   rw[List.length_append,sz];omega
theorem next_ok {H0 H:Heap}{mid:Nat}{nv:Value}{N:List Int}{lo hi:Nat}{p:Int}{inn:ByteArray}(hN:SL H0 nv N)(hl:N.length≤100000)(h:MKx H0 H mid nv N lo hi p inn)(n:Int)(h1:1≤n)(h2:n≤100000) :
  ∃ r H',(run Tryz.prog E).call 44 [.pointer (some ⟨mid,0,none⟩),.int .i64 n] H=some (.val (.int .i64 r),H')∧0≤r∧r<n∧MKx H0 H' mid nv N lo hi p inn:=by
 suffices key:Gives ((run Tryz.prog E).call 44 [.pointer (some ⟨mid,0,none⟩),.int .i64 n] H) fun o H'=>∃ r,o = .val (.int .i64 r)∧0≤r∧r<n∧MKx H0 H' mid nv N lo hi p inn by
  obtain⟨o,H',e,r,rfl,k⟩:=key
  exact⟨r,H',e,k⟩
 obtain⟨a,left,ov,out,h⟩:=h
 have o1:=h.obj
 obtain⟨b,rfl⟩:=h.go.slice
 rw[c_mnext hE,callB,bodyOf]
 have q0:=q_next0
 have q1:=q_next1
 obtain⟨b0,n0,c0,rfl⟩:=hN.slice
 have hlen:=hN.len
 simp only[lenA,Option.some.injEq]at hlen
 subst hlen
 simp[Tryz.f44,o1]
 refine region_quiet (by exact q0) ?_
 rcases Nat.lt_or_ge a N.length with hlt | hge
 · obtain⟨r,off,own,tl,es,cs,cap,e,hg,hc,hv⟩:=SL.at (SL.keep hN h.kp) hlt
   cases e
   simp[o1,show ¬(N.length:Int)≤a by omega,show ¬n<1 by omega]
   refine region_quiet (by exact q1) ?_
   have hr:=fun ty u v=>bin_rem (P:=Tryz.prog) ty u v .i64 N[a] n (by omega)
   have hb : -n<N[a].tmod n∧N[a].tmod n<n:=by
    have h1:=Int.tmod_lt_of_pos N[a] (show (0:Int)<n by omega)
    have h2:=Int.neg_tmod N[a] n
    have h3:=Int.tmod_lt_of_pos (-N[a]) (show (0:Int)<n by omega)
    omega
   generalize N[a].tmod n=y at hb hr
   have w1:IntKind.i64.wrap ((a:Int)+1)=((a+1:Nat):Int):=by rw[wrap64 _ (by omega) (by omega)];omega
   have w2:IntKind.i64.wrap (y+n)=y+n:=wrap64 _ (by omega) (by omega)
   have ea:((a+1:Nat):Int)=(a:Int)+1:=by omega
   have ht:=h.turn (a':=a+1) (by omega) p inn left
   by_cases hy:y<0
   · simp[o1,hlt,hg,hc,hv,hr,w1,w2,hy]
     rw[← ea]
     exact⟨by omega,by omega,_,_,_,_,ht⟩
   · simp[o1,hlt,hg,hc,hv,hr,w1,w2,hy]
     rw[← ea]
     exact⟨by omega,by omega,_,_,_,_,ht⟩
 · simp[o1,show (N.length:Int)≤a by omega]
   exact⟨by omega,_,_,_,_,h⟩
theorem c_itoa (args:List Value)(H:Heap):(run Tryz.prog E).call 43 args H=callB Tryz.prog E Tryz.f43 args H:=call_B Tryz.func43 rfl (by decide +kernel) (hE.no _ rfl rfl) args H
theorem c_itoa2 (args:List Value)(H:Heap):(run Tryz.prog E).call 66 args H=callB Tryz.prog E Tryz.f66 args H:=call_B Tryz.func66 rfl (by decide +kernel) (hE.no _ rfl rfl) args H
theorem c_fmtint (args:List Value)(H:Heap):(run Tryz.prog E).call 82 args H=callB Tryz.prog E Tryz.f82 args H:=call_B Tryz.func82 rfl (by decide +kernel) (hE.no _ rfl rfl) args H
theorem c_small (args:List Value)(H:Heap):(run Tryz.prog E).call 94 args H=callB Tryz.prog E Tryz.f94 args H:=call_B Tryz.func94 rfl (by decide +kernel) (hE.no _ rfl rfl) args H
theorem small_ok (r:Nat)(hr:r<10)(H:Heap):∃ s:ByteArray,s.size≤1∧(run Tryz.prog E).call 94 [.int .i64 r] H=some (.val (.string s),H):=by
 suffices key:Gives ((run Tryz.prog E).call 94 [.int .i64 r] H) fun o H'=>∃ s:ByteArray,s.size≤1∧o = .val (.string s)∧H'=H by
  obtain⟨o,H',e,s,hs,rfl,rfl⟩:=key
  exact⟨s,hs,e⟩
 have w1:IntKind.i64.wrap ((r:Int)+1)=((r+1:Nat):Int):=by rw[wrap64 _ (by omega) (by omega)];omega
 have hr':(r:Int)<10:=by omega
 rw[c_small hE,callB,bodyOf]
 have sl:=slice_str ⟨#[48,49,50,51,52,53,54,55,56,57,97,98,99,100,101,102,103,104,105,106,107,108,109,110,111,112,113,114,115,116,117,118,119,120,121,122]⟩ r (show r+1≤36 by omega) H
 simp[Tryz.f94,hr',w1,sl]
 omega
theorem itoa_ok (r:Int)(h0:0≤r)(hr:r<10)(H:Heap):∃ s:ByteArray,s.size≤1∧(run Tryz.prog E).call 43 [.int .i64 r] H=some (.val (.string s),H):=by
 obtain⟨n,rfl⟩:∃ n:Nat,r=n:=⟨r.toNat,by omega⟩
 obtain⟨s,hs,e⟩:=small_ok hE n (by omega) H
 refine⟨s,hs,?_⟩
 have e1:(run Tryz.prog E).call 82 [.int .i64 (n:Int),.int .i64 10] H=some (.val (.string s),H):=by
  suffices key:Gives ((run Tryz.prog E).call 82 [.int .i64 (n:Int),.int .i64 10] H) fun o H'=>o = .val (.string s)∧H'=H by
   obtain⟨o,H',e,rfl,rfl⟩:=key
   exact e
  rw[c_fmtint hE,callB,bodyOf]
  simp[Tryz.f82,show (n:Int)<100 by omega,e]
 have e2:(run Tryz.prog E).call 66 [.int .i64 (n:Int)] H=some (.val (.string s),H):=by
  suffices key:Gives ((run Tryz.prog E).call 66 [.int .i64 (n:Int)] H) fun o H'=>o = .val (.string s)∧H'=H by
   obtain⟨o,H',e,rfl,rfl⟩:=key
   exact e
  rw[c_itoa2 hE,callB,bodyOf]
  simp[Tryz.f66,e1]
 suffices key:Gives ((run Tryz.prog E).call 43 [.int .i64 (n:Int)] H) fun o H'=>o = .val (.string s)∧H'=H by
  obtain⟨o,H',e,rfl,rfl⟩:=key
  exact e
 rw[c_itoa hE,callB,bodyOf]
 simp[Tryz.f43,e2]
end
end Go.Vm.Make
namespace Go.Vm.Make
open Go Go.Proofs Go.Vm.Parse
attribute [local simp] repCells_succ writeAt rd_Fr toList_beq gpe gpn spe gse gsn ne_r0 ne_l0 le_s0 op_index
theorem MKx.low {H0 H:Heap}{mid:Nat}{nv:Value}{N:List Int}{lo lo' hi:Nat}{p:Int}{inn:ByteArray}(h:MKx H0 H mid nv N lo hi p inn)(hh:lo'≤lo):MKx H0 H mid nv N lo' hi p inn:=by
 obtain⟨a,left,ov,out,h⟩:=h
 exact⟨a,left,ov,out,h.kp,h.hm,h.obj,h.ha,h.go,Nat.le_trans hh h.lo,h.hi⟩
theorem idxA_arr {P:Program}{ty:TypeId}{len:Nat}{e:TypeId}(hty:P.underlying ty=some (.array len e))(hs:sizeT P e=some 1)(ha:aggT P e=some false){cs:List Value}{kd:IntKind}{j:Int}(h0:0≤j)(hj:j<(len:Int)){v:Value}(hv:cs[j.toNat]? = some v)(H:Heap) :
  idxA P ty (some (.agg ⟨cs⟩)) (some (.int kd j)) H=some (.val v,H):=by
 simp[idxA,hty,hs,partA,ha,h0,hj,hv]
theorem gives_idx6 {a0 a1 a2 a3 a4 a5:ByteArray}{j:Int}{H:Heap}{Q:Out→Heap→Prop}(h0:a0.size≤40)(h1:a1.size≤40)(h2:a2.size≤40)(h3:a3.size≤40)(h4:a4.size≤40)(h5:a5.size≤40)(h:0≤j)(hj:j<6)(k:∀ s:ByteArray,s.size≤40→Q (.val (.string s)) H) :
  Gives (idxA Tryz.prog 163 (some (.agg ⟨[.string a0,.string a1,.string a2,.string a3,.string a4,.string a5]⟩)) (some (.int .i64 j)) H) Q:=by
 rcases (show j=0∨j=1∨j=2∨j=3∨j=4∨j=5 by omega)with rfl | rfl | rfl | rfl | rfl | rfl
 · exact⟨_,_,idxA_arr Tryz.underlying163 (by simp) (by simp) (by omega) (by omega) rfl H,k _ h0⟩
 · exact⟨_,_,idxA_arr Tryz.underlying163 (by simp) (by simp) (by omega) (by omega) rfl H,k _ h1⟩
 · exact⟨_,_,idxA_arr Tryz.underlying163 (by simp) (by simp) (by omega) (by omega) rfl H,k _ h2⟩
 · exact⟨_,_,idxA_arr Tryz.underlying163 (by simp) (by simp) (by omega) (by omega) rfl H,k _ h3⟩
 · exact⟨_,_,idxA_arr Tryz.underlying163 (by simp) (by simp) (by omega) (by omega) rfl H,k _ h4⟩
 · exact⟨_,_,idxA_arr Tryz.underlying163 (by simp) (by simp) (by omega) (by omega) rfl H,k _ h5⟩
theorem gives_idx2 {a0 a1:ByteArray}{j:Int}{H:Heap}{Q:Out→Heap→Prop}(h0:a0.size≤40)(h1:a1.size≤40)(h:0≤j)(hj:j<2)(k:∀ s:ByteArray,s.size≤40→Q (.val (.string s)) H) :
  Gives (idxA Tryz.prog 162 (some (.agg ⟨[.string a0,.string a1]⟩)) (some (.int .i64 j)) H) Q:=by
 rcases (show j=0∨j=1 by omega)with rfl | rfl
 · exact⟨_,_,idxA_arr Tryz.underlying162 (by simp) (by simp) (by omega) (by omega) rfl H,k _ h0⟩
 · exact⟨_,_,idxA_arr Tryz.underlying162 (by simp) (by simp) (by omega) (by omega) rfl H,k _ h1⟩
theorem gives_idx3 {a0 a1 a2:ByteArray}{j:Int}{H:Heap}{Q:Out→Heap→Prop}(h0:a0.size≤40)(h1:a1.size≤40)(h2:a2.size≤40)(h:0≤j)(hj:j<3)(k:∀ s:ByteArray,s.size≤40→Q (.val (.string s)) H) :
  Gives (idxA Tryz.prog 183 (some (.agg ⟨[.string a0,.string a1,.string a2]⟩)) (some (.int .i64 j)) H) Q:=by
 rcases (show j=0∨j=1∨j=2 by omega)with rfl | rfl | rfl
 · exact⟨_,_,idxA_arr Tryz.underlying183 (by simp) (by simp) (by omega) (by omega) rfl H,k _ h0⟩
 · exact⟨_,_,idxA_arr Tryz.underlying183 (by simp) (by simp) (by omega) (by omega) rfl H,k _ h1⟩
 · exact⟨_,_,idxA_arr Tryz.underlying183 (by simp) (by simp) (by omega) (by omega) rfl H,k _ h2⟩
section
variable {E:Hooks} (hE:Plain E) {H0:Heap} {mid:Nat} {nv:Value} {N:List Int} (hN:SL H0 nv N) (hl:N.length≤100000)
include hE
theorem gives_put {H:Heap}{lo hi:Nat}{p:Int}{inn:ByteArray}(h:MKx H0 H mid nv N lo hi p inn){s:ByteArray}{Q:Out→Heap→Prop}(hs:s.size≤40)(hb:hi≤900000000)
  (k:∀ H',MKx H0 H' mid nv N lo (hi+40) p inn→Q (.val (.tuple #[])) H'):Gives ((run Tryz.prog E).call 42 [.pointer (some ⟨mid,0,none⟩),.string s] H) Q:=by
 obtain⟨H',e,h'⟩:=put_ok hE h s (by omega)
 exact⟨_,_,e,k H' ((h'.low (Nat.le_add_right _ _)).more (by omega))⟩
include hN hl
theorem gives_next {H:Heap}{lo hi:Nat}{p:Int}{inn:ByteArray}(h:MKx H0 H mid nv N lo hi p inn){n:Int}{Q:Out→Heap→Prop}(h1:1≤n)(h2:n≤1000)
  (k:∀ r H',0≤r→r<n→MKx H0 H' mid nv N lo hi p inn→Q (.val (.int .i64 r)) H'):Gives ((run Tryz.prog E).call 44 [.pointer (some ⟨mid,0,none⟩),.int .i64 n] H) Q:=by
 obtain⟨r,H',e,h3,h4,h'⟩:=next_ok hE hN hl h n h1 (by omega)
 exact⟨_,_,e,k r H' h3 h4 h'⟩
theorem c_mnum (args:List Value)(H:Heap):(run Tryz.prog E).call 45 args H=callB Tryz.prog E Tryz.f45 args H:=call_B Tryz.func45 rfl (by decide +kernel) (hE.no _ rfl rfl) args H
theorem c_mexpr (args:List Value)(H:Heap):(run Tryz.prog E).call 69 args H=callB Tryz.prog E Tryz.f69 args H:=call_B Tryz.func69 rfl (by decide +kernel) (hE.no _ rfl rfl) args H
theorem gives_num {H:Heap}{lo hi:Nat}{p:Int}{inn:ByteArray}(h:MKx H0 H mid nv N lo hi p inn){n:Int}{Q:Out→Heap→Prop}(h1:1≤n)(h2:n≤10)(hb:hi≤900000000)
  (k:∀ H',MKx H0 H' mid nv N lo (hi+40) p inn→Q (.val (.tuple #[])) H'):Gives ((run Tryz.prog E).call 45 [.pointer (some ⟨mid,0,none⟩),.int .i64 n] H) Q:=by
 rw[c_mnum hE hN hl,callB,bodyOf]
 simp[Tryz.f45]
 refine gives_next hE hN hl h h1 (by omega) fun r H1 h3 h4 h => ?_
 obtain⟨s,hs,e⟩:=itoa_ok hE r h3 (by omega) H1
 simp[e]
 refine gives_put hE h (by omega) hb fun H2 h => ?_
 simp
 exact k _ h
def bE:Nat→Nat
 | 0=>100
 | d+1=>2 * bE d+300
def InOK (inn:ByteArray):Prop:=inn=ByteArray.empty∨inn=⟨#[118]⟩∨inn=⟨#[119]⟩
theorem expr_ok:∀ d:Nat,d≤3→∀ {H:Heap}{lo hi:Nat}{p:Int}{inn:ByteArray}{Q:Out→Heap→Prop},MKx H0 H mid nv N lo hi p inn→InOK inn→hi+bE d≤900000000 →
  (∀ H',MKx H0 H' mid nv N lo (hi+bE d) p inn→Q (.val (.tuple #[])) H')→Gives ((run Tryz.prog E).call 69 [.pointer (some ⟨mid,0,none⟩),.int .i64 (d:Int)] H) Q:=by
 intro d
 induction d using Nat.strongRecOn with
 | _ d ih =>
 intro hd3 H lo hi p inn Q h hin hb k
 rw[c_mexpr hE hN hl,callB,bodyOf]
 simp[Tryz.f69]
 refine gives_next hE hN hl h (by omega) (by omega) fun r H1 h3 h4 h => ?_
 have hb0:100≤bE d:=by cases d<;>simp only[bE]<;>omega
 have fin:∀ {H'},MKx H0 H' mid nv N lo (hi+40) p inn→Q (.val (.tuple #[])) H':=fun h=>k _ (h.more (by omega))
 have o1:∃ (a:Nat) (left:Int) (ov:Value),H1.get mid = .row true 0 1 [nv,.int .i64 a,ov,.int .i64 p,.string inn,.int .i64 left]:=by
  obtain⟨a,left,ov,out,hm⟩:=h
  exact⟨_,_,_,hm.obj⟩
 obtain⟨a,left,ov,o1⟩:=o1
 have z0:IntKind.i64.wrap 0=0:=wrap64 0 (by omega) (by omega)
 have z1:IntKind.i64.wrap 1=1:=wrap64 1 (by omega) (by omega)
 have z2:IntKind.i64.wrap 2=2:=wrap64 2 (by omega) (by omega)
 have z3:IntKind.i64.wrap 3=3:=wrap64 3 (by omega) (by omega)
 rcases Nat.eq_zero_or_pos d with rfl | hd
 · rcases (show r=0∨r=1∨r=2∨r=3∨r=4∨r=5∨r=6∨r=7∨r=8 by omega)with rfl | rfl | rfl | rfl | rfl | rfl | rfl | rfl | rfl
   · simp;refine gives_num hE hN hl h (by omega) (by omega) (by omega) fun H2 h => ?_;simp;exact fin h
   · by_cases hp:0<p<;>simp[o1,hp]<;>(refine gives_put hE h (by decide) (by omega) fun H2 h => ?_;simp;exact fin h)
   · by_cases hp:0<p<;>simp[o1,hp]<;>(refine gives_put hE h (by decide) (by omega) fun H2 h => ?_;simp;exact fin h)
   · rcases hin with rfl | rfl | rfl<;>simp[o1]<;>(refine gives_put hE h (by decide) (by omega) fun H2 h => ?_;simp;exact fin h)
   · rcases hin with rfl | rfl | rfl<;>simp[o1]<;>(refine gives_put hE h (by decide) (by omega) fun H2 h => ?_;simp;exact fin h)
   · simp[z0,z1,z2,z3];refine gives_num hE hN hl h (by omega) (by omega) (by omega) fun H2 h => ?_;simp;exact fin h
   · by_cases hp:0<p<;>simp[o1,hp,z0,z1,z2,z3]<;>(refine gives_put hE h (by decide) (by omega) fun H2 h => ?_;simp;exact fin h)
   · by_cases hp:0<p<;>simp[o1,hp,z0,z1,z2,z3]<;>(refine gives_put hE h (by decide) (by omega) fun H2 h => ?_;simp;exact fin h)
   · rcases hin with rfl | rfl | rfl<;>simp[o1,z0,z1,z2,z3]<;>(refine gives_put hE h (by decide) (by omega) fun H2 h => ?_;simp;exact fin h)
 · obtain⟨e,rfl⟩:∃ e,d=e+1:=⟨d - 1,by omega⟩
   have d0:¬((e:Int)+1=0):=by omega
   have w0:IntKind.i64.wrap ((e:Int)+1 - 1)=e:=by rw[wrap64 _ (by omega) (by omega)];omega
   have w1:IntKind.i64.wrap (e:Int)=e:=wrap64 _ (by omega) (by omega)
   simp only[bE]at hb k hb0 fin
   rcases (show r=0∨r=1∨r=2∨r=3∨r=4∨r=5∨r=6∨r=7∨r=8 by omega)with rfl | rfl | rfl | rfl | rfl | rfl | rfl | rfl | rfl
   · simp[d0];refine gives_num hE hN hl h (by omega) (by omega) (by omega) fun H2 h => ?_;simp;exact fin h
   · by_cases hp:0<p<;>simp[d0,o1,hp]<;>(refine gives_put hE h (by decide) (by omega) fun H2 h => ?_;simp;exact fin h)
   · by_cases hp:0<p<;>simp[d0,o1,hp]<;>(refine gives_put hE h (by decide) (by omega) fun H2 h => ?_;simp;exact fin h)
   · rcases hin with rfl | rfl | rfl<;>simp[d0,o1]<;>(refine gives_put hE h (by decide) (by omega) fun H2 h => ?_;simp;exact fin h)
   · rcases hin with rfl | rfl | rfl<;>simp[d0,o1]<;>(refine gives_put hE h (by decide) (by omega) fun H2 h => ?_;simp;exact fin h)
   · simp[d0]
     refine gives_put hE h (by decide) (by omega) fun H2 h => ?_
     simp
     have:=ih 0 (by omega) (by omega) (H:=H2) h hin (by simp only[bE];omega) (Q:=fun o H'=>o = .val (.tuple #[])∧MKx H0 H' mid nv N lo (hi+40+bE 0) p inn) (fun H' h=>⟨rfl,h⟩)
     obtain⟨o,H3,e3,rfl,h⟩:=this
     simp at e3
     simp[e3]
     exact k _ (h.more (by simp only[bE];omega))
   all_goals
    simp[d0]
    refine gives_put hE h (by decide) (by omega) fun H2 h => ?_
    simp[w0,w1]
    refine Gives.mono (ih e (by omega) (by omega) (H:=H2) h hin (by omega) (Q:=fun o H'=>o = .val (.tuple #[])∧MKx H0 H' mid nv N lo (hi+40+bE e) p inn) (fun H' h=>⟨rfl,h⟩)) ?_
    rintro _ H3 ⟨rfl,h⟩
    simp
    refine gives_next hE hN hl h (by omega) (by omega) fun j H4 h5 h6 h => ?_
    simp
    refine gives_idx6 (by decide) (by decide) (by decide) (by decide) (by decide) (by decide) h5 h6 fun s hs => ?_
    simp
    refine gives_put hE h hs (by omega) fun H5 h => ?_
    simp[w0,w1]
    refine Gives.mono (ih e (by omega) (by omega) (H:=H5) h hin (by omega) (Q:=fun o H'=>o = .val (.tuple #[])∧MKx H0 H' mid nv N lo (hi+40+bE e+40+bE e) p inn) (fun H' h=>⟨rfl,h⟩)) ?_
    rintro _ H6 ⟨rfl,h⟩
    simp
    refine gives_put hE h (by decide) (by omega) fun H7 h => ?_
    simp
    exact k _ (h.more (by omega))
end
theorem pl_callee:planOf Tryz.prog (drawN Tryz.f68 0)=some [some (0,1),some (0,1),some (0,1),some (0,1),some (0,1),none,none,none,none,none,none,none,none,none]:=by decide +kernel
theorem MKx.row {H0 H:Heap}{mid:Nat}{nv:Value}{N:List Int}{lo hi:Nat}{p:Int}{inn:ByteArray}(h:MKx H0 H mid nv N lo hi p inn):∃ (a:Nat)(left:Int)(b:Option Addr)(n:Nat),H.get mid = .row true 0 1 [nv,.int .i64 a,.slice b n n,.int .i64 p,.string inn,.int .i64 left]:=by
 obtain⟨a,left,ov,out,hm⟩:=h
 obtain⟨b,rfl⟩:=hm.go.slice
 exact⟨_,_,_,_,hm.obj⟩
def bC:Nat→Nat
 | 0=>2 * bE 1+400
 | d+1=>2 * bC d+2 * bE 1+400
section
variable {E:Hooks} (hE:Plain E) {H0:Heap} {mid:Nat} {nv:Value} {N:List Int} (hN:SL H0 nv N) (hl:N.length≤100000)
include hE hN hl
theorem gives_expr (d:Nat)(hd:d≤3){H:Heap}{lo hi:Nat}{p:Int}{inn:ByteArray}(h:MKx H0 H mid nv N lo hi p inn)(hin:InOK inn){z:Int}{Q:Out→Heap→Prop}(hz:z=d)(hb:hi+bE d≤900000000)
  (k:∀ H',MKx H0 H' mid nv N lo (hi+bE d) p inn→Q (.val (.tuple #[])) H'):Gives ((run Tryz.prog E).call 69 [.pointer (some ⟨mid,0,none⟩),.int .i64 z] H) Q:=by
 subst hz
 exact expr_ok hE hN hl d hd h hin hb k
theorem c_mcond (args:List Value)(H:Heap):(run Tryz.prog E).call 83 args H=callB Tryz.prog E Tryz.f83 args H:=call_B Tryz.func83 rfl (by decide +kernel) (hE.no _ rfl rfl) args H
theorem c_mwait (args:List Value)(H:Heap):(run Tryz.prog E).call 98 args H=callB Tryz.prog E Tryz.f98 args H:=call_B Tryz.func98 rfl (by decide +kernel) (hE.no _ rfl rfl) args H
theorem c_mitems (args:List Value)(H:Heap):(run Tryz.prog E).call 84 args H=callB Tryz.prog E Tryz.f84 args H:=call_B Tryz.func84 rfl (by decide +kernel) (hE.no _ rfl rfl) args H
theorem c_mcallee (args:List Value)(H:Heap):(run Tryz.prog E).call 68 args H=callB Tryz.prog E Tryz.f68 args H:=call_B Tryz.func68 rfl (by decide +kernel) (hE.no _ rfl rfl) args H
theorem cond_ok:∀ d:Nat,d≤3→∀ {H:Heap}{lo hi:Nat}{p:Int}{inn:ByteArray}{Q:Out→Heap→Prop},MKx H0 H mid nv N lo hi p inn→InOK inn→hi+bC d≤900000000 →
  (∀ H',MKx H0 H' mid nv N lo (hi+bC d) p inn→Q (.val (.tuple #[])) H')→Gives ((run Tryz.prog E).call 83 [.pointer (some ⟨mid,0,none⟩),.int .i64 (d:Int)] H) Q:=by
 intro d
 induction d using Nat.strongRecOn with
 | _ d ih =>
 intro hd3 H lo hi p inn Q h hin hb k
 rw[c_mcond hE hN hl,callB,bodyOf]
 simp[Tryz.f83]
 refine gives_next hE hN hl h (by omega) (by omega) fun r H1 h3 h4 h => ?_
 have hb0:2 * bE 1+400≤bC d:=by cases d<;>simp only[bC]<;>omega
 rcases Nat.eq_zero_or_pos d with rfl | hd
 · rcases (show r=0∨r=1∨r=2∨r=3∨r=4∨r=5∨r=6∨r=7 by omega)with rfl | rfl | rfl | rfl | rfl | rfl | rfl | rfl
   · simp
     refine gives_expr hE hN hl 1 (by omega) h hin rfl (by omega) fun H2 h => ?_
     simp
     refine gives_next hE hN hl h (by omega) (by omega) fun j H4 h5 h6 h => ?_
     simp
     refine gives_idx6 (by decide) (by decide) (by decide) (by decide) (by decide) (by decide) h5 h6 fun s hs => ?_
     simp
     refine gives_put hE h hs (by omega) fun H5 h => ?_
     simp
     refine gives_expr hE hN hl 1 (by omega) h hin rfl (by omega) fun H6 h => ?_
     simp
     exact k _ (h.more (by omega))
   · simp
     refine gives_expr hE hN hl 1 (by omega) h hin rfl (by omega) fun H2 h => ?_
     simp
     refine gives_next hE hN hl h (by omega) (by omega) fun j H4 h5 h6 h => ?_
     simp
     refine gives_idx6 (by decide) (by decide) (by decide) (by decide) (by decide) (by decide) h5 h6 fun s hs => ?_
     simp
     refine gives_put hE h hs (by omega) fun H5 h => ?_
     simp
     refine gives_expr hE hN hl 1 (by omega) h hin rfl (by omega) fun H6 h => ?_
     simp
     exact k _ (h.more (by omega))
   · simp
     refine gives_expr hE hN hl 1 (by omega) h hin rfl (by omega) fun H2 h => ?_
     simp
     refine gives_next hE hN hl h (by omega) (by omega) fun j H4 h5 h6 h => ?_
     simp
     refine gives_idx6 (by decide) (by decide) (by decide) (by decide) (by decide) (by decide) h5 h6 fun s hs => ?_
     simp
     refine gives_put hE h hs (by omega) fun H5 h => ?_
     simp
     refine gives_expr hE hN hl 1 (by omega) h hin rfl (by omega) fun H6 h => ?_
     simp
     exact k _ (h.more (by omega))
   · simp
     refine gives_expr hE hN hl 1 (by omega) h hin rfl (by omega) fun H2 h => ?_
     simp
     refine gives_next hE hN hl h (by omega) (by omega) fun j H4 h5 h6 h => ?_
     simp
     refine gives_idx6 (by decide) (by decide) (by decide) (by decide) (by decide) (by decide) h5 h6 fun s hs => ?_
     simp
     refine gives_put hE h hs (by omega) fun H5 h => ?_
     simp
     refine gives_expr hE hN hl 1 (by omega) h hin rfl (by omega) fun H6 h => ?_
     simp
     exact k _ (h.more (by omega))
   · simp
     refine gives_next hE hN hl h (by omega) (by omega) fun j H4 h5 h6 h => ?_
     simp
     refine gives_idx2 (by decide) (by decide) h5 h6 fun s hs => ?_
     simp
     refine gives_put hE h hs (by omega) fun H5 h => ?_
     simp
     exact k _ (h.more (by omega))
   · simp
     refine gives_expr hE hN hl 1 (by omega) h hin rfl (by omega) fun H2 h => ?_
     simp
     refine gives_next hE hN hl h (by omega) (by omega) fun j H4 h5 h6 h => ?_
     simp
     refine gives_idx6 (by decide) (by decide) (by decide) (by decide) (by decide) (by decide) h5 h6 fun s hs => ?_
     simp
     refine gives_put hE h hs (by omega) fun H5 h => ?_
     simp
     refine gives_expr hE hN hl 1 (by omega) h hin rfl (by omega) fun H6 h => ?_
     simp
     exact k _ (h.more (by omega))
   · simp
     refine gives_expr hE hN hl 1 (by omega) h hin rfl (by omega) fun H2 h => ?_
     simp
     refine gives_next hE hN hl h (by omega) (by omega) fun j H4 h5 h6 h => ?_
     simp
     refine gives_idx6 (by decide) (by decide) (by decide) (by decide) (by decide) (by decide) h5 h6 fun s hs => ?_
     simp
     refine gives_put hE h hs (by omega) fun H5 h => ?_
     simp
     refine gives_expr hE hN hl 1 (by omega) h hin rfl (by omega) fun H6 h => ?_
     simp
     exact k _ (h.more (by omega))
   · simp
     refine gives_expr hE hN hl 1 (by omega) h hin rfl (by omega) fun H2 h => ?_
     simp
     refine gives_next hE hN hl h (by omega) (by omega) fun j H4 h5 h6 h => ?_
     simp
     refine gives_idx6 (by decide) (by decide) (by decide) (by decide) (by decide) (by decide) h5 h6 fun s hs => ?_
     simp
     refine gives_put hE h hs (by omega) fun H5 h => ?_
     simp
     refine gives_expr hE hN hl 1 (by omega) h hin rfl (by omega) fun H6 h => ?_
     simp
     exact k _ (h.more (by omega))
 · obtain⟨e,rfl⟩:∃ e,d=e+1:=⟨d - 1,by omega⟩
   have d0:¬((e:Int)+1=0):=by omega
   have w1:IntKind.i64.wrap (e:Int)=e:=wrap64 _ (by omega) (by omega)
   have z0:IntKind.i64.wrap 0=0:=wrap64 0 (by omega) (by omega)
   have z1:IntKind.i64.wrap 1=1:=wrap64 1 (by omega) (by omega)
   have hce:bC (e+1)=2 * bC e+2 * bE 1+400:=rfl
   have rec_:∀ {H:Heap} {hi':Nat} {Q:Out→Heap→Prop},MKx H0 H mid nv N lo hi' p inn→hi'+bC e≤900000000→(∀ H',MKx H0 H' mid nv N lo (hi'+bC e) p inn→Q (.val (.tuple #[])) H')→Gives ((run Tryz.prog E).call 83 [.pointer (some ⟨mid,0,none⟩),.int .i64 (e:Int)] H) Q :=
    fun h hb k=>ih e (by omega) (by omega) h hin hb k
   rcases (show r=0∨r=1∨r=2∨r=3∨r=4∨r=5∨r=6∨r=7 by omega)with rfl | rfl | rfl | rfl | rfl | rfl | rfl | rfl
   · simp[d0]
     refine gives_expr hE hN hl 1 (by omega) h hin rfl (by omega) fun H2 h => ?_
     simp
     refine gives_next hE hN hl h (by omega) (by omega) fun j H4 h5 h6 h => ?_
     simp
     refine gives_idx6 (by decide) (by decide) (by decide) (by decide) (by decide) (by decide) h5 h6 fun s hs => ?_
     simp
     refine gives_put hE h hs (by omega) fun H5 h => ?_
     simp
     refine gives_expr hE hN hl 1 (by omega) h hin rfl (by omega) fun H6 h => ?_
     simp
     exact k _ (h.more (by omega))
   · simp[d0]
     refine gives_expr hE hN hl 1 (by omega) h hin rfl (by omega) fun H2 h => ?_
     simp
     refine gives_next hE hN hl h (by omega) (by omega) fun j H4 h5 h6 h => ?_
     simp
     refine gives_idx6 (by decide) (by decide) (by decide) (by decide) (by decide) (by decide) h5 h6 fun s hs => ?_
     simp
     refine gives_put hE h hs (by omega) fun H5 h => ?_
     simp
     refine gives_expr hE hN hl 1 (by omega) h hin rfl (by omega) fun H6 h => ?_
     simp
     exact k _ (h.more (by omega))
   · simp[d0]
     refine gives_expr hE hN hl 1 (by omega) h hin rfl (by omega) fun H2 h => ?_
     simp
     refine gives_next hE hN hl h (by omega) (by omega) fun j H4 h5 h6 h => ?_
     simp
     refine gives_idx6 (by decide) (by decide) (by decide) (by decide) (by decide) (by decide) h5 h6 fun s hs => ?_
     simp
     refine gives_put hE h hs (by omega) fun H5 h => ?_
     simp
     refine gives_expr hE hN hl 1 (by omega) h hin rfl (by omega) fun H6 h => ?_
     simp
     exact k _ (h.more (by omega))
   · simp[d0]
     refine gives_expr hE hN hl 1 (by omega) h hin rfl (by omega) fun H2 h => ?_
     simp
     refine gives_next hE hN hl h (by omega) (by omega) fun j H4 h5 h6 h => ?_
     simp
     refine gives_idx6 (by decide) (by decide) (by decide) (by decide) (by decide) (by decide) h5 h6 fun s hs => ?_
     simp
     refine gives_put hE h hs (by omega) fun H5 h => ?_
     simp
     refine gives_expr hE hN hl 1 (by omega) h hin rfl (by omega) fun H6 h => ?_
     simp
     exact k _ (h.more (by omega))
   · simp[d0]
     refine gives_next hE hN hl h (by omega) (by omega) fun j H4 h5 h6 h => ?_
     simp
     refine gives_idx2 (by decide) (by decide) h5 h6 fun s hs => ?_
     simp
     refine gives_put hE h hs (by omega) fun H5 h => ?_
     simp
     exact k _ (h.more (by omega))
   · simp[d0]
     refine gives_put hE h (by decide) (by omega) fun H2 h => ?_
     simp[w1]
     refine rec_ h (by omega) fun H3 h => ?_
     simp
     refine gives_put hE h (by decide) (by omega) fun H4 h => ?_
     simp
     exact k _ (h.more (by omega))
   · simp[d0]
     refine gives_put hE h (by decide) (by omega) fun H2 h => ?_
     simp[w1]
     refine rec_ h (by omega) fun H3 h => ?_
     simp[z0]
     refine gives_idx2 (by decide) (by decide) (by omega) (by omega) fun s hs => ?_
     simp
     refine gives_put hE h hs (by omega) fun H5 h => ?_
     simp[w1]
     refine rec_ h (by omega) fun H3 h => ?_
     simp
     refine gives_put hE h (by decide) (by omega) fun H4 h => ?_
     simp
     exact k _ (h.more (by omega))
   · simp[d0]
     refine gives_put hE h (by decide) (by omega) fun H2 h => ?_
     simp[w1]
     refine rec_ h (by omega) fun H3 h => ?_
     simp[z1]
     refine gives_idx2 (by decide) (by decide) (by omega) (by omega) fun s hs => ?_
     simp
     refine gives_put hE h hs (by omega) fun H5 h => ?_
     simp[w1]
     refine rec_ h (by omega) fun H3 h => ?_
     simp
     refine gives_put hE h (by decide) (by omega) fun H4 h => ?_
     simp
     exact k _ (h.more (by omega))
theorem gives_cond (d:Nat)(hd:d≤3){H:Heap}{lo hi:Nat}{p:Int}{inn:ByteArray}(h:MKx H0 H mid nv N lo hi p inn)(hin:InOK inn){z:Int}{Q:Out→Heap→Prop}(hz:z=d)(hb:hi+bC d≤900000000)
  (k:∀ H',MKx H0 H' mid nv N lo (hi+bC d) p inn→Q (.val (.tuple #[])) H'):Gives ((run Tryz.prog E).call 83 [.pointer (some ⟨mid,0,none⟩),.int .i64 z] H) Q:=by
 subst hz
 exact cond_ok hE hN hl d hd h hin hb k
theorem gives_wait {H:Heap}{lo hi:Nat}{p:Int}{inn:ByteArray}(h:MKx H0 H mid nv N lo hi p inn)(hin:InOK inn){Q:Out→Heap→Prop}(hb:hi+200≤900000000)
  (k:∀ H',MKx H0 H' mid nv N lo (hi+200) p inn→Q (.val (.tuple #[])) H'):Gives ((run Tryz.prog E).call 98 [.pointer (some ⟨mid,0,none⟩)] H) Q:=by
 rw[c_mwait hE hN hl,callB,bodyOf]
 obtain⟨a,left,b,n,o1⟩:=h.row
 rcases hin with rfl | rfl | rfl
 all_goals
  simp[Tryz.f98,o1]
  refine gives_put hE h (by decide) (by omega) fun H2 h => ?_
  simp
  refine gives_next hE hN hl h (by omega) (by omega) fun j H4 h5 h6 h => ?_
  simp
  refine gives_idx3 (by decide) (by decide) (by decide) h5 h6 fun s hs => ?_
  simp
  refine gives_put hE h hs (by omega) fun H5 h => ?_
  simp
  refine gives_num hE hN hl h (by omega) (by omega) (by omega) fun H6 h => ?_
  simp
  exact k _ (h.more (by omega))
theorem gives_items {H:Heap}{lo hi:Nat}{p:Int}{inn:ByteArray}(h:MKx H0 H mid nv N lo hi p inn){Q:Out→Heap→Prop}(hb:hi+200≤900000000)
  (k:∀ H',MKx H0 H' mid nv N lo (hi+200) p inn→Q (.val (.tuple #[])) H'):Gives ((run Tryz.prog E).call 84 [.pointer (some ⟨mid,0,none⟩)] H) Q:=by
 rw[c_mitems hE hN hl,callB,bodyOf]
 simp[Tryz.f84]
 refine gives_next hE hN hl h (by omega) (by omega) fun r H1 h3 h4 h => ?_
 by_cases hr:r=0
 · subst hr
   simp
   refine gives_put hE h (by decide) (by omega) fun H2 h => ?_
   simp
   refine gives_put hE h (by decide) (by omega) fun H2 h => ?_
   simp
   refine gives_next hE hN hl h (by omega) (by omega) fun r H1 h3 h4 h => ?_
   obtain⟨s,hs,e⟩:=itoa_ok hE (1+r) (by omega) (by omega) H1
   simp[wrap64 (1+r) (by omega) (by omega),e]
   refine gives_put hE h (by omega) (by omega) fun H2 h => ?_
   simp
   exact k _ (h.more (by omega))
 · simp[hr]
   refine gives_put hE h (by decide) (by omega) fun H2 h => ?_
   simp
   refine gives_next hE hN hl h (by omega) (by omega) fun r H1 h3 h4 h => ?_
   obtain⟨s,hs,e⟩:=itoa_ok hE (1+r) (by omega) (by omega) H1
   simp[wrap64 (1+r) (by omega) (by omega),e]
   refine gives_put hE h (by omega) (by omega) fun H2 h => ?_
   simp
   exact k _ (h.more (by omega))
theorem callee_ok {H:Heap}{lo hi:Nat}{p:Int}{inn:ByteArray}(h:MKx H0 H mid nv N lo hi p inn)(hp0:0≤p)(hp3:p≤3) :
  ∃ r H',(run Tryz.prog E).call 68 [.pointer (some ⟨mid,0,none⟩)] H=some (.val (.int .i64 r),H')∧1≤r∧r≤3∧MKx H0 H' mid nv N lo hi p inn:=by
 suffices key:Gives ((run Tryz.prog E).call 68 [.pointer (some ⟨mid,0,none⟩)] H) fun o H'=>∃ r,o = .val (.int .i64 r)∧1≤r∧r≤3∧MKx H0 H' mid nv N lo hi p inn by
  obtain⟨o,H',e,r,rfl,k⟩:=key
  exact⟨r,H',e,k⟩
 rw[c_mcallee hE hN hl,callB,bodyOf]
 obtain⟨a,left,b,n,o1⟩:=h.row
 by_cases h3:3≤p
 · simp[Tryz.f68,o1,h3]
   exact h
 · obtain⟨r,H1,e,h5,h6,h7⟩:=next_ok hE hN hl h (3 - p) (by omega) (by omega)
   obtain⟨a',left',b',n',o2⟩:=h7.row
   have w1:IntKind.i64.wrap (p+1)=p+1:=wrap64 _ (by omega) (by omega)
   have w2:IntKind.i64.wrap (3 - p)=3 - p:=wrap64 _ (by omega) (by omega)
   have w3:IntKind.i64.wrap (p+1+r)=p+1+r:=wrap64 _ (by omega) (by omega)
   simp[Tryz.f68,o1,h3]
   refine region_plan (by exact pl_callee) ?_
   simp[drawF,o1,w1,w2,e,w3,o2]
   exact⟨by omega,by omega,h7⟩
end
def bF:Nat:=400+bE 1
def FkI (H0:Heap)(mid:Nat)(nv:Value)(N:List Int)(lo hi:Nat)(p:Int)(inn:ByteArray)(n:Nat)(m:Nat)(t:List Value)(K:Heap):Prop :=
 ∃ i:Nat,i≤n∧m=n - i∧rd t 3 = .int .i64 i∧MKx H0 K mid nv N lo (hi+40+i * bF) p inn
section
variable {E:Hooks} (hE:Plain E) {H0:Heap} {mid:Nat} {nv:Value} {N:List Int} (hN:SL H0 nv N) (hl:N.length≤100000)
include hE hN hl
theorem c_mfork (args:List Value)(H:Heap):(run Tryz.prog E).call 47 args H=callB Tryz.prog E Tryz.f47 args H:=call_B Tryz.func47 rfl (by decide +kernel) (hE.no _ rfl rfl) args H
theorem gives_fork {H:Heap}{lo hi:Nat}{p:Int}{inn:ByteArray}(h:MKx H0 H mid nv N lo hi p inn)(hin:InOK inn)(hp0:0≤p)(hp3:p≤3){Q:Out→Heap→Prop}(hb:hi+3 * bF+80≤800000000)
  (k:∀ H',MKx H0 H' mid nv N lo (hi+3 * bF+80) p inn→Q (.val (.tuple #[])) H'):Gives ((run Tryz.prog E).call 47 [.pointer (some ⟨mid,0,none⟩)] H) Q:=by
 rw[c_mfork hE hN hl,callB,bodyOf]
 have hbF:bF=400+bE 1:=rfl
 have hbE:bE 1≤1000:=by decide
 have c1:(⟨#[112]⟩:ByteArray).size=1:=rfl
 have c2:(⟨#[40]⟩:ByteArray).size=1:=rfl
 simp[Tryz.f47]
 refine gives_next hE hN hl h (by omega) (by omega) fun r H1 r1 r3 h => ?_
 obtain⟨n,hn⟩:∃ n:Nat,1+r=n:=⟨(1+r).toNat,by omega⟩
 simp[wrap64 (1+r) (by omega) (by omega)]
 rw[hn]
 refine gives_put hE h (by decide) (by omega) fun H2 h => ?_
 simp
 refine loop_mid2 (fun t K=>MKx H0 K mid nv N lo (hi+40+3 * bF) p inn) (FkI H0 mid nv N lo hi p inn n) n ?_ ?_ ?_
 · exact⟨0,Nat.zero_le _,by omega,by simp,h.more (by omega)⟩
 · rintro m t K hkk ⟨i,hi',rfl,g3,h⟩
   have ht:t.length=47:=hkk.1.trans (by simp[len_Bs])
   have hh:=hkk.all [0,2] (by decide +kernel)
   simp at hh
   obtain⟨u0,u2⟩:=hh
   have w1:IntKind.i64.wrap ((i:Int)+1)=(i:Int)+1:=wrap64 _ (by omega) (by omega)
   have w11:IntKind.i64.wrap 1=1:=wrap64 1 (by omega) (by omega)
   have him:i * bF≤3 * bF:=Nat.mul_le_mul_right _ (by omega)
   rcases Nat.lt_or_ge i n with hlt | hge
   · rcases Nat.eq_zero_or_pos i with rfl | hi0
     · simp[ht,u0,u2,g3,show 0<n by omega]
       obtain⟨r,H2,e,r1,r3,h⟩:=callee_ok hE hN hl h hp0 hp3
       obtain⟨s,hs,e2⟩:=itoa_ok hE r (by omega) (by omega) H2
       have f1:=fun a b=>bin_cat2 a b ⟨#[112]⟩ s (by rw[c1];omega)
       have f2:=fun a b=>bin_cat2 a b (⟨#[112]⟩++s) ⟨#[40]⟩ (by rw[ByteArray.size_append,c1,c2];omega)
       simp[ht,u0,e,e2,f1,f2]
       refine gives_put hE h (s:=⟨#[112]⟩++s ++ ⟨#[40]⟩) (by simp only[ByteArray.size_append,c1,c2];omega) (by omega) fun H3 h => ?_
       simp[ht,u0]
       refine gives_expr hE hN hl 1 (by omega) h hin rfl (by omega) fun H4 h => ?_
       simp[ht,u0]
       refine gives_put hE h (by decide) (by omega) fun H5 h => ?_
       simp[ht,u0]
       refine gives_next hE hN hl h (by omega) (by omega) fun r H6 r1 r3 h => ?_
       by_cases hr:0<r
       · simp[ht,hr,u0]
         refine gives_put hE h (by decide) (by omega) fun H7 h => ?_
         simp[ht,u0]
         refine gives_next hE hN hl h (by omega) (by omega) fun r H8 r1 r3 h => ?_
         obtain⟨s,hs,e2⟩:=itoa_ok hE (1+r) (by omega) (by omega) H8
         simp[ht,wrap64 (1+r) (by omega) (by omega),e2]
         refine gives_put hE h (by omega) (by omega) fun H9 h => ?_
         simp[ht,u0]
         refine gives_next hE hN hl h (by omega) (by omega) fun r H10 r1 r3 h => ?_
         by_cases hr:r=1
         · simp[ht,hr,u0]
           refine gives_put hE h (by decide) (by omega) fun H11 h => ?_
           simp[ht,g3,w1,w11]
           exact⟨n - 1,by omega,1,by omega,rfl,by simp[ht],h.more (by omega)⟩
         · simp[hr,u0,ht,g3,w1,w11]
           exact⟨n - 1,by omega,1,by omega,rfl,by simp[ht],h.more (by omega)⟩
       · simp[hr,u0,ht,g3,w1,w11]
         exact⟨n - 1,by omega,1,by omega,rfl,by simp[ht],h.more (by omega)⟩
     · simp[ht,u0,u2,g3,hlt,hi0]
       refine gives_put hE h (by decide) (by omega) fun H1 h => ?_
       simp[ht,u0]
       obtain⟨r,H2,e,r1,r3,h⟩:=callee_ok hE hN hl h hp0 hp3
       obtain⟨s,hs,e2⟩:=itoa_ok hE r (by omega) (by omega) H2
       have f1:=fun a b=>bin_cat2 a b ⟨#[112]⟩ s (by rw[c1];omega)
       have f2:=fun a b=>bin_cat2 a b (⟨#[112]⟩++s) ⟨#[40]⟩ (by rw[ByteArray.size_append,c1,c2];omega)
       simp[ht,u0,e,e2,f1,f2]
       refine gives_put hE h (s:=⟨#[112]⟩++s ++ ⟨#[40]⟩) (by simp only[ByteArray.size_append,c1,c2];omega) (by omega) fun H3 h => ?_
       simp[ht,u0]
       refine gives_expr hE hN hl 1 (by omega) h hin rfl (by omega) fun H4 h => ?_
       simp[ht,u0]
       refine gives_put hE h (by decide) (by omega) fun H5 h => ?_
       simp[ht,u0]
       refine gives_next hE hN hl h (by omega) (by omega) fun r H6 r1 r3 h => ?_
       by_cases hr:0<r
       · simp[ht,hr,u0]
         refine gives_put hE h (by decide) (by omega) fun H7 h => ?_
         simp[ht,u0]
         refine gives_next hE hN hl h (by omega) (by omega) fun r H8 r1 r3 h => ?_
         obtain⟨s,hs,e2⟩:=itoa_ok hE (1+r) (by omega) (by omega) H8
         simp[ht,wrap64 (1+r) (by omega) (by omega),e2]
         refine gives_put hE h (by omega) (by omega) fun H9 h => ?_
         simp[ht,u0]
         refine gives_next hE hN hl h (by omega) (by omega) fun r H10 r1 r3 h => ?_
         by_cases hr:r=1
         · simp[ht,hr,u0]
           refine gives_put hE h (by decide) (by omega) fun H11 h => ?_
           simp[ht,g3,w1,w11]
           exact⟨n - (i+1),by omega,i+1,by omega,rfl,by simp[ht],h.more (by rw[Nat.add_mul];omega)⟩
         · simp[hr,u0,ht,g3,w1,w11]
           exact⟨n - (i+1),by omega,i+1,by omega,rfl,by simp[ht],h.more (by rw[Nat.add_mul];omega)⟩
       · simp[hr,u0,ht,g3,w1,w11]
         exact⟨n - (i+1),by omega,i+1,by omega,rfl,by simp[ht],h.more (by rw[Nat.add_mul];omega)⟩
   · simp[ht,u2,g3,show ¬i<n by omega]
     exact h.more (by omega)
 · rintro t K hkk h
   have ht:t.length=47:=hkk.1.trans (by simp[len_Bs])
   have hh:=hkk.all [0] (by decide +kernel)
   simp at hh
   simp[ht,hh]
   refine gives_put hE h (by decide) (by omega) fun H2 h => ?_
   simp
   exact k _ (h.more (by omega))
end
theorem MKx.turn {H0 H:Heap}{mid:Nat}{nv:Value}{N:List Int}{lo hi:Nat}{p:Int}{inn:ByteArray}(h:MKx H0 H mid nv N lo hi p inn):∃ (a:Nat)(left:Int)(b:Option Addr)(n:Nat),H.get mid = .row true 0 1 [nv,.int .i64 a,.slice b n n,.int .i64 p,.string inn,.int .i64 left] ∧
  ∀ (inn':ByteArray) (left':Int),MKx H0 (H.set mid (.row true 0 1 [nv,.int .i64 a,.slice b n n,.int .i64 p,.string inn',.int .i64 left'])) mid nv N lo hi p inn':=by
 obtain⟨a,left,ov,out,hm⟩:=h
 obtain⟨b,rfl⟩:=hm.go.slice
 exact⟨a,left,b,out.length,hm.obj,fun inn' left'=>⟨a,left',_,out,MK.turn hm hm.ha p inn' left'⟩⟩
def bT:Nat→Nat
 | 0=>3 * bF+bC 1+bE 2+2000
 | d+1=>2 * (3 * (bT d+40)+40)+3 * bF+bC 1+bE 2+2000
def bS (d:Nat):Nat:=3 * (bT d+40)+40
def StmtOK (E:Hooks)(H0:Heap)(mid:Nat)(nv:Value)(N:List Int)(p:Int)(f:FuncId)(d b:Nat):Prop:=∀ {H:Heap} {lo hi:Nat} {inn:ByteArray} {Q:Out→Heap→Prop},MKx H0 H mid nv N lo hi p inn→InOK inn→hi+b≤800000000 →
 (∀ H',MKx H0 H' mid nv N lo (hi+b) p inn→Q (.val (.tuple #[])) H')→Gives ((run Tryz.prog E).call f [.pointer (some ⟨mid,0,none⟩),.int .i64 (d:Int)] H) Q
def StI (H0:Heap)(mid:Nat)(nv:Value)(N:List Int)(lo hi:Nat)(p:Int)(inn:ByteArray)(B n:Nat)(m:Nat)(t:List Value)(K:Heap):Prop :=
 ∃ i:Nat,i≤n∧m=n - i∧rd t 5 = .int .i64 i∧MKx H0 K mid nv N lo (hi+i * B) p inn
section
variable {E:Hooks} (hE:Plain E) {H0:Heap} {mid:Nat} {nv:Value} {N:List Int} (hN:SL H0 nv N) (hl:N.length≤100000)
include hE hN hl
theorem c_mstmts (args:List Value)(H:Heap):(run Tryz.prog E).call 46 args H=callB Tryz.prog E Tryz.f46 args H:=call_B Tryz.func46 rfl (by decide +kernel) (hE.no _ rfl rfl) args H
theorem c_mregion (args:List Value)(H:Heap):(run Tryz.prog E).call 85 args H=callB Tryz.prog E Tryz.f85 args H:=call_B Tryz.func85 rfl (by decide +kernel) (hE.no _ rfl rfl) args H
theorem stmts_of {p:Int}{d:Nat}(hst:StmtOK E H0 mid nv N p 67 d (bT d)):StmtOK E H0 mid nv N p 46 d (bS d):=by
 intro H lo hi inn Q h hin hb k
 rw[c_mstmts hE hN hl,callB,bodyOf]
 have hbS:bS d=3 * (bT d+40)+40:=rfl
 simp[Tryz.f46]
 refine gives_next hE hN hl h (by omega) (by omega) fun r H1 r1 r3 h => ?_
 obtain⟨n,hn⟩:∃ n:Nat,1+r=n:=⟨(1+r).toNat,by omega⟩
 simp[wrap64 (1+r) (by omega) (by omega)]
 rw[hn]
 refine loop_wp (StI H0 mid nv N lo hi p inn (bT d+40) n) n ?_ ?_
 · exact⟨0,Nat.zero_le _,by omega,by simp,h.more (by omega)⟩
 · rintro m t K hkk ⟨i,hi',rfl,g5,h⟩
   have ht:t.length=21:=hkk.1.trans (by simp[len_Bs])
   have hh:=hkk.all [0,1,4] (by decide +kernel)
   simp at hh
   obtain⟨u0,u1,u4⟩:=hh
   have w1:IntKind.i64.wrap ((i:Int)+1)=(i:Int)+1:=wrap64 _ (by omega) (by omega)
   have w11:IntKind.i64.wrap 1=1:=wrap64 1 (by omega) (by omega)
   have him:i * (bT d+40)≤3 * (bT d+40):=Nat.mul_le_mul_right _ (by omega)
   rcases Nat.lt_or_ge i n with hlt | hge
   · have him2:i * (bT d+40)≤2 * (bT d+40):=Nat.mul_le_mul_right _ (by omega)
     rcases Nat.eq_zero_or_pos i with rfl | hi0
     · simp[ht,u0,u1,u4,g5,show 0<n by omega]
       refine hst h hin (by omega) fun H2 h => ?_
       simp[ht,g5,w11]
       exact⟨n - 1,by omega,1,by omega,rfl,by simp[ht],h.more (by omega)⟩
     · simp[ht,u0,u1,u4,g5,hlt,hi0]
       refine gives_put hE h (by decide) (by omega) fun H1 h => ?_
       simp[ht,u0,u1]
       refine hst h hin (by omega) fun H2 h => ?_
       simp[ht,g5,w1]
       exact⟨n - (i+1),by omega,i+1,by omega,rfl,by simp[ht],h.more (by rw[Nat.add_mul];omega)⟩
   · simp[ht,u4,g5,show ¬i<n by omega]
     exact k _ (h.more (by omega))
theorem region_of {p:Int}{e:Nat}(he:e≤3)(hrec:StmtOK E H0 mid nv N p 46 e (bS e)):StmtOK E H0 mid nv N p 85 (e+1) (bS e+800):=by
 intro H lo hi inn Q h hin hb k
 rw[c_mregion hE hN hl,callB,bodyOf]
 have w1:IntKind.i64.wrap (e:Int)=e:=wrap64 _ (by omega) (by omega)
 obtain⟨a0,left0,b0,n0,o0,_⟩:=h.turn
 simp[Tryz.f85,o0]
 refine gives_next hE hN hl h (by omega) (by omega) fun r H1 h3 h4 h => ?_
 obtain⟨a,left,b,n,o1,ht⟩:=h.turn
 have e2:∀ (j:Int) (v:ByteArray),j=0∧v=⟨#[118]⟩∨j=1∧v=⟨#[119]⟩→idxA Tryz.prog 162 (some (.agg ⟨[.string ⟨#[118]⟩,.string ⟨#[119]⟩]⟩)) (some (.int .i64 j)) H1=some (.val (.string v),H1):=by
  rintro j v (⟨rfl,rfl⟩ | ⟨rfl,rfl⟩)
  · exact idxA_arr Tryz.underlying162 (by simp) (by simp) (by omega) (by omega) rfl H1
  · exact idxA_arr Tryz.underlying162 (by simp) (by simp) (by omega) (by omega) rfl H1
 have f1:=fun a b=>bin_cat2 a b ⟨#[114,101,103,105,111,110,32]⟩ ⟨#[118]⟩ (by decide)
 have f2:=fun a b=>bin_cat2 a b ⟨#[114,101,103,105,111,110,32]⟩ ⟨#[119]⟩ (by decide)
 rcases (show r=0∨r=1 by omega)with rfl | rfl
 · have ev:=e2 0 ⟨#[118]⟩ (.inl ⟨rfl,rfl⟩)
   rcases hin with rfl | rfl | rfl
   · simp[ev,f1]
     simp[o1,f1,f2]
     refine gives_put hE (ht ⟨#[118]⟩ left) (s:=⟨#[114,101,103,105,111,110,32]⟩ ++ ⟨#[118]⟩) (by decide) (by omega) fun H3 h => ?_
     simp
     refine gives_next hE hN hl h (by omega) (by omega) fun r H4 h3 h4 h => ?_
     by_cases hr:r=1
     · simp[hr]
       refine gives_put hE h (by decide) (by omega) fun H5 h => ?_
       simp
       refine gives_wait hE hN hl h (by unfold InOK;simp) (by omega) fun H6 h => ?_
       simp
       refine gives_put hE h (by decide) (by omega) fun H7 h => ?_
       simp
       refine gives_put hE h (by decide) (by omega) fun H8 h => ?_
       simp[w1]
       refine hrec h (by unfold InOK;simp) (by omega) fun H9 h => ?_
       simp
       refine gives_put hE h (by decide) (by omega) fun H10 h => ?_
       obtain⟨a',left',b',n',o2,ht2⟩:=h.turn
       simp[o2]
       exact k _ ((ht2 ByteArray.empty left').more (by omega))
     · simp[hr]
       refine gives_put hE h (by decide) (by omega) fun H7 h => ?_
       simp
       refine gives_put hE h (by decide) (by omega) fun H8 h => ?_
       simp[w1]
       refine hrec h (by unfold InOK;simp) (by omega) fun H9 h => ?_
       simp
       refine gives_put hE h (by decide) (by omega) fun H10 h => ?_
       obtain⟨a',left',b',n',o2,ht2⟩:=h.turn
       simp[o2]
       exact k _ ((ht2 ByteArray.empty left').more (by omega))
   · simp[ev]
     refine gives_put hE h (by decide) (by omega) fun H3 h => ?_
     simp
     exact k _ (h.more (by omega))
   · simp[ev]
     refine gives_put hE h (by decide) (by omega) fun H3 h => ?_
     simp
     exact k _ (h.more (by omega))
 · have ev:=e2 1 ⟨#[119]⟩ (.inr ⟨rfl,rfl⟩)
   rcases hin with rfl | rfl | rfl
   · simp[ev,f2]
     simp[o1,f1,f2]
     refine gives_put hE (ht ⟨#[119]⟩ left) (s:=⟨#[114,101,103,105,111,110,32]⟩ ++ ⟨#[119]⟩) (by decide) (by omega) fun H3 h => ?_
     simp
     refine gives_next hE hN hl h (by omega) (by omega) fun r H4 h3 h4 h => ?_
     by_cases hr:r=1
     · simp[hr]
       refine gives_put hE h (by decide) (by omega) fun H5 h => ?_
       simp
       refine gives_wait hE hN hl h (by unfold InOK;simp) (by omega) fun H6 h => ?_
       simp
       refine gives_put hE h (by decide) (by omega) fun H7 h => ?_
       simp
       refine gives_put hE h (by decide) (by omega) fun H8 h => ?_
       simp[w1]
       refine hrec h (by unfold InOK;simp) (by omega) fun H9 h => ?_
       simp
       refine gives_put hE h (by decide) (by omega) fun H10 h => ?_
       obtain⟨a',left',b',n',o2,ht2⟩:=h.turn
       simp[o2]
       exact k _ ((ht2 ByteArray.empty left').more (by omega))
     · simp[hr]
       refine gives_put hE h (by decide) (by omega) fun H7 h => ?_
       simp
       refine gives_put hE h (by decide) (by omega) fun H8 h => ?_
       simp[w1]
       refine hrec h (by unfold InOK;simp) (by omega) fun H9 h => ?_
       simp
       refine gives_put hE h (by decide) (by omega) fun H10 h => ?_
       obtain⟨a',left',b',n',o2,ht2⟩:=h.turn
       simp[o2]
       exact k _ ((ht2 ByteArray.empty left').more (by omega))
   · simp[ev]
     refine gives_put hE h (by decide) (by omega) fun H3 h => ?_
     simp
     exact k _ (h.more (by omega))
   · simp[ev]
     refine gives_put hE h (by decide) (by omega) fun H3 h => ?_
     simp
     exact k _ (h.more (by omega))
end
def SJ0 (H0:Heap)(mid:Nat)(nv:Value)(N:List Int)(lo hi:Nat)(p:Int)(inn:ByteArray)(d:Nat)(t:List Value)(K:Heap):Prop :=
 t.length=198∧rd t 0 = .pointer (some ⟨mid,0,none⟩)∧rd t 1 = .int .i64 (d:Int)∧MKx H0 K mid nv N lo hi p inn
def SJ1 (H0:Heap)(mid:Nat)(nv:Value)(N:List Int)(lo hi:Nat)(p:Int)(inn:ByteArray)(d:Nat)(t:List Value)(K:Heap):Prop :=
 t.length=198∧rd t 0 = .pointer (some ⟨mid,0,none⟩)∧rd t 1 = .int .i64 (d:Int)∧(∃ r:Int,rd t 4 = .int .i64 r∧0≤r∧r<20)∧MKx H0 K mid nv N lo hi p inn
def SJ2 (H0:Heap)(mid:Nat)(nv:Value)(N:List Int)(lo hi:Nat)(p:Int)(inn:ByteArray)(d:Nat)(t:List Value)(K:Heap):Prop :=
 t.length=198∧rd t 0 = .pointer (some ⟨mid,0,none⟩)∧rd t 1 = .int .i64 (d:Int)∧(∃ r:Int,rd t 4 = .int .i64 r∧0≤r∧r<20∧(r=2∨r=3∨r=5∨14≤r→1≤d))∧MKx H0 K mid nv N lo hi p inn
section
variable {E:Hooks} (hE:Plain E) {H0:Heap} {mid:Nat} {nv:Value} {N:List Int} (hN:SL H0 nv N) (hl:N.length≤100000)
include hE hN hl
theorem c_mstmt (args:List Value)(H:Heap):(run Tryz.prog E).call 67 args H=callB Tryz.prog E Tryz.f67 args H:=call_B Tryz.func67 rfl (by decide +kernel) (hE.no _ rfl rfl) args H
theorem stmt_of {p:Int}(hp0:0≤p)(hp3:p≤3){d:Nat}(hd:d≤3)(hrec:∀ e,d=e+1→StmtOK E H0 mid nv N p 46 e (bS e)):StmtOK E H0 mid nv N p 67 d (bT d):=by
 intro H lo hi inn Q h hin hb k
 have hbT:3 * bF+bC 1+bE 2+2000≤bT d:=by
  cases d with
  | zero=>exact Nat.le_refl _
  | succ d =>
   show _≤2 * (3 * (bT d+40)+40)+3 * bF+bC 1+bE 2+2000
   omega
 have hb1:bE 1≤bE 2:=by decide
 have c1:(⟨#[112]⟩:ByteArray).size=1:=rfl
 have c2:(⟨#[40]⟩:ByteArray).size=1:=rfl
 rw[c_mstmt hE hN hl,callB,bodyOf]
 simp only[Tryz.f67,gives_body]
 rw[code_seq,ends_then]
 refine ends_cut (SJ0 H0 mid nv N lo hi p inn d) ?_ ?_
 · obtain⟨a,left,b,n,o1,ht⟩:=h.turn
   simp[o1,len_Bs]
   exact⟨by simp[len_Bs],by simp[len_Bs],by simp[len_Bs],ht inn _⟩
 clear h
 rintro t K ⟨ht,u0,u1,h⟩
 rw[code_seq,ends_then]
 refine ends_cut (SJ1 H0 mid nv N lo hi p inn d) ?_ ?_
 · simp[ht,u0]
   refine gives_next hE hN hl h (by omega) (by omega) fun r H1 r1 r3 h => ?_
   simp[ht]
   exact⟨by simp[ht],by simp[ht,u0],by simp[ht,u1],⟨r,by simp[ht],r1,r3⟩,h⟩
 clear u0 u1 ht h
 rintro t K ⟨ht,u0,u1,⟨r,u4,r1,r3⟩,h⟩
 rw[code_seq,ends_then]
 refine ends_cut (SJ2 H0 mid nv N lo hi p inn d) ?_ ?_
 · obtain⟨a,left,b,n,o1⟩:=h.row
   rcases Nat.eq_zero_or_pos d with rfl | hd0
   · rcases (show r=0∨r=1∨r=2∨r=3∨r=4∨r=5∨r=6∨r=7∨r=8∨r=9∨r=10∨r=11∨r=12∨r=13∨r=14∨r=15∨r=16∨r=17∨r=18∨r=19 by omega)with rfl | rfl | rfl | rfl | rfl | rfl | rfl | rfl | rfl | rfl | rfl | rfl | rfl | rfl | rfl | rfl | rfl | rfl | rfl | rfl
     · simp[ht,u0,u1,u4]
       exact⟨by simp[ht],by simp[ht,u0],by simp[ht,u1],⟨0,by simp[ht,u4],by omega,by omega,by omega⟩,h⟩
     · simp[ht,u0,u1,u4]
       exact⟨by simp[ht],by simp[ht,u0],by simp[ht,u1],⟨1,by simp[ht,u4],by omega,by omega,by omega⟩,h⟩
     · simp[ht,u0,u1,u4]
       exact⟨by simp[ht],by simp[ht,u0],by simp[ht,u1],⟨12,by simp[ht],by omega,by omega,by omega⟩,h⟩
     · simp[ht,u0,u1,u4]
       exact⟨by simp[ht],by simp[ht,u0],by simp[ht,u1],⟨12,by simp[ht],by omega,by omega,by omega⟩,h⟩
     · simp[ht,u0,u1,u4]
       exact⟨by simp[ht],by simp[ht,u0],by simp[ht,u1],⟨4,by simp[ht,u4],by omega,by omega,by omega⟩,h⟩
     · simp[ht,u0,u1,u4]
       exact⟨by simp[ht],by simp[ht,u0],by simp[ht,u1],⟨12,by simp[ht],by omega,by omega,by omega⟩,h⟩
     · simp[ht,u0,u1,u4]
       exact⟨by simp[ht],by simp[ht,u0],by simp[ht,u1],⟨6,by simp[ht,u4],by omega,by omega,by omega⟩,h⟩
     · simp[ht,u0,u1,u4]
       exact⟨by simp[ht],by simp[ht,u0],by simp[ht,u1],⟨7,by simp[ht,u4],by omega,by omega,by omega⟩,h⟩
     · simp[ht,u0,u1,u4]
       exact⟨by simp[ht],by simp[ht,u0],by simp[ht,u1],⟨8,by simp[ht,u4],by omega,by omega,by omega⟩,h⟩
     · simp[ht,u0,u1,u4]
       exact⟨by simp[ht],by simp[ht,u0],by simp[ht,u1],⟨9,by simp[ht,u4],by omega,by omega,by omega⟩,h⟩
     · simp[ht,u0,u1,u4]
       exact⟨by simp[ht],by simp[ht,u0],by simp[ht,u1],⟨10,by simp[ht,u4],by omega,by omega,by omega⟩,h⟩
     · simp[ht,u0,u1,u4]
       exact⟨by simp[ht],by simp[ht,u0],by simp[ht,u1],⟨11,by simp[ht,u4],by omega,by omega,by omega⟩,h⟩
     · simp[ht,u0,u1,u4]
       exact⟨by simp[ht],by simp[ht,u0],by simp[ht,u1],⟨12,by simp[ht,u4],by omega,by omega,by omega⟩,h⟩
     · simp[ht,u0,u1,u4]
       exact⟨by simp[ht],by simp[ht,u0],by simp[ht,u1],⟨13,by simp[ht,u4],by omega,by omega,by omega⟩,h⟩
     · simp[ht,u0,u1,u4]
       exact⟨by simp[ht],by simp[ht,u0],by simp[ht,u1],⟨12,by simp[ht],by omega,by omega,by omega⟩,h⟩
     · simp[ht,u0,u1,u4]
       exact⟨by simp[ht],by simp[ht,u0],by simp[ht,u1],⟨12,by simp[ht],by omega,by omega,by omega⟩,h⟩
     · simp[ht,u0,u1,u4]
       exact⟨by simp[ht],by simp[ht,u0],by simp[ht,u1],⟨12,by simp[ht],by omega,by omega,by omega⟩,h⟩
     · simp[ht,u0,u1,u4]
       exact⟨by simp[ht],by simp[ht,u0],by simp[ht,u1],⟨12,by simp[ht],by omega,by omega,by omega⟩,h⟩
     · simp[ht,u0,u1,u4]
       exact⟨by simp[ht],by simp[ht,u0],by simp[ht,u1],⟨12,by simp[ht],by omega,by omega,by omega⟩,h⟩
     · simp[ht,u0,u1,u4]
       exact⟨by simp[ht],by simp[ht,u0],by simp[ht,u1],⟨12,by simp[ht],by omega,by omega,by omega⟩,h⟩
   · have hd1:¬d=0:=by omega
     by_cases hlf:left<0
     · rcases (show r=0∨r=1∨r=2∨r=3∨r=4∨r=5∨r=6∨r=7∨r=8∨r=9∨r=10∨r=11∨r=12∨r=13∨r=14∨r=15∨r=16∨r=17∨r=18∨r=19 by omega)with rfl | rfl | rfl | rfl | rfl | rfl | rfl | rfl | rfl | rfl | rfl | rfl | rfl | rfl | rfl | rfl | rfl | rfl | rfl | rfl
       · simp[ht,u0,u1,u4,o1,hd1,hlf]
         exact⟨by simp[ht],by simp[ht,u0],by simp[ht,u1],⟨0,by simp[ht,u4],by omega,by omega,by omega⟩,h⟩
       · simp[ht,u0,u1,u4,o1,hd1,hlf]
         exact⟨by simp[ht],by simp[ht,u0],by simp[ht,u1],⟨1,by simp[ht,u4],by omega,by omega,by omega⟩,h⟩
       · simp[ht,u0,u1,u4,o1,hd1,hlf]
         exact⟨by simp[ht],by simp[ht,u0],by simp[ht,u1],⟨12,by simp[ht],by omega,by omega,by omega⟩,h⟩
       · simp[ht,u0,u1,u4,o1,hd1,hlf]
         exact⟨by simp[ht],by simp[ht,u0],by simp[ht,u1],⟨12,by simp[ht],by omega,by omega,by omega⟩,h⟩
       · simp[ht,u0,u1,u4,o1,hd1,hlf]
         exact⟨by simp[ht],by simp[ht,u0],by simp[ht,u1],⟨4,by simp[ht,u4],by omega,by omega,by omega⟩,h⟩
       · simp[ht,u0,u1,u4,o1,hd1,hlf]
         exact⟨by simp[ht],by simp[ht,u0],by simp[ht,u1],⟨12,by simp[ht],by omega,by omega,by omega⟩,h⟩
       · simp[ht,u0,u1,u4,o1,hd1,hlf]
         exact⟨by simp[ht],by simp[ht,u0],by simp[ht,u1],⟨6,by simp[ht,u4],by omega,by omega,by omega⟩,h⟩
       · simp[ht,u0,u1,u4,o1,hd1,hlf]
         exact⟨by simp[ht],by simp[ht,u0],by simp[ht,u1],⟨7,by simp[ht,u4],by omega,by omega,by omega⟩,h⟩
       · simp[ht,u0,u1,u4,o1,hd1,hlf]
         exact⟨by simp[ht],by simp[ht,u0],by simp[ht,u1],⟨8,by simp[ht,u4],by omega,by omega,by omega⟩,h⟩
       · simp[ht,u0,u1,u4,o1,hd1,hlf]
         exact⟨by simp[ht],by simp[ht,u0],by simp[ht,u1],⟨9,by simp[ht,u4],by omega,by omega,by omega⟩,h⟩
       · simp[ht,u0,u1,u4,o1,hd1,hlf]
         exact⟨by simp[ht],by simp[ht,u0],by simp[ht,u1],⟨10,by simp[ht,u4],by omega,by omega,by omega⟩,h⟩
       · simp[ht,u0,u1,u4,o1,hd1,hlf]
         exact⟨by simp[ht],by simp[ht,u0],by simp[ht,u1],⟨11,by simp[ht,u4],by omega,by omega,by omega⟩,h⟩
       · simp[ht,u0,u1,u4,o1,hd1,hlf]
         exact⟨by simp[ht],by simp[ht,u0],by simp[ht,u1],⟨12,by simp[ht,u4],by omega,by omega,by omega⟩,h⟩
       · simp[ht,u0,u1,u4,o1,hd1,hlf]
         exact⟨by simp[ht],by simp[ht,u0],by simp[ht,u1],⟨13,by simp[ht,u4],by omega,by omega,by omega⟩,h⟩
       · simp[ht,u0,u1,u4,o1,hd1,hlf]
         exact⟨by simp[ht],by simp[ht,u0],by simp[ht,u1],⟨12,by simp[ht],by omega,by omega,by omega⟩,h⟩
       · simp[ht,u0,u1,u4,o1,hd1,hlf]
         exact⟨by simp[ht],by simp[ht,u0],by simp[ht,u1],⟨12,by simp[ht],by omega,by omega,by omega⟩,h⟩
       · simp[ht,u0,u1,u4,o1,hd1,hlf]
         exact⟨by simp[ht],by simp[ht,u0],by simp[ht,u1],⟨12,by simp[ht],by omega,by omega,by omega⟩,h⟩
       · simp[ht,u0,u1,u4,o1,hd1,hlf]
         exact⟨by simp[ht],by simp[ht,u0],by simp[ht,u1],⟨12,by simp[ht],by omega,by omega,by omega⟩,h⟩
       · simp[ht,u0,u1,u4,o1,hd1,hlf]
         exact⟨by simp[ht],by simp[ht,u0],by simp[ht,u1],⟨12,by simp[ht],by omega,by omega,by omega⟩,h⟩
       · simp[ht,u0,u1,u4,o1,hd1,hlf]
         exact⟨by simp[ht],by simp[ht,u0],by simp[ht,u1],⟨12,by simp[ht],by omega,by omega,by omega⟩,h⟩
     · simp[ht,u0,u1,u4,o1,hd1,hlf]
       exact⟨by simp[ht],by simp[ht,u0],by simp[ht,u1],⟨r,by simp[ht,u4],r1,r3,fun _=>hd0⟩,h⟩
 clear u0 u1 u4 ht h r1 r3
 clear r
 rintro t K ⟨ht,u0,u1,⟨r,u4,r1,r3,hk⟩,h⟩
 rcases (show r=0∨r=1∨r=2∨r=3∨r=4∨r=5∨r=6∨r=7∨r=8∨r=9∨r=10∨r=11∨r=12∨r=13∨r=14∨r=15∨r=16∨r=17∨r=18∨r=19 by omega)with rfl | rfl | rfl | rfl | rfl | rfl | rfl | rfl | rfl | rfl | rfl | rfl | rfl | rfl | rfl | rfl | rfl | rfl | rfl | rfl
 · simp[ht,u0,u4]
   refine gives_put hE h (by decide) (by omega) fun _ h => ?_
   simp[ht,u0]
   exact k _ (h.more (by omega))
 · simp[ht,u0,u4]
   refine gives_put hE h (by decide) (by omega) fun _ h => ?_
   simp[ht,u0]
   refine gives_expr hE hN hl 2 (by omega) h hin rfl (by omega) fun _ h => ?_
   simp[ht,u0]
   exact k _ (h.more (by omega))
 · obtain⟨e,rfl⟩:∃ e,d=e+1:=⟨d - 1,by have:=hk (by omega);omega⟩
   change hi+(2 * (3 * (bT e+40)+40)+3 * bF+bC 1+bE 2+2000)≤800000000 at hb
   change ∀ H',MKx H0 H' mid nv N lo (hi+(2 * (3 * (bT e+40)+40)+3 * bF+bC 1+bE 2+2000)) p inn→Q (.val (.tuple #[])) H' at k
   have hbS:bS e=3 * (bT e+40)+40:=rfl
   have w1:IntKind.i64.wrap (e:Int)=e:=wrap64 _ (by omega) (by omega)
   simp only[Int.natCast_add,Int.natCast_one,Int.natCast_succ]at u1
   simp[ht,u0,u4]
   refine gives_put hE h (by decide) (by omega) fun _ h => ?_
   simp[ht,u0]
   refine gives_cond hE hN hl 1 (by omega) h hin rfl (by omega) fun _ h => ?_
   simp[ht,u0]
   refine gives_put hE h (by decide) (by omega) fun _ h => ?_
   simp[ht,u0,u1,w1]
   refine hrec e rfl h hin (by omega) fun _ h => ?_
   simp[ht,u0]
   refine gives_next hE hN hl h (by omega) (by omega) fun r _ r1 r2 h => ?_
   by_cases hr:r=1
   · simp[ht,u0,hr]
     refine gives_put hE h (by decide) (by omega) fun _ h => ?_
     simp[ht,u0,u1,w1]
     refine hrec e rfl h hin (by omega) fun _ h => ?_
     simp[ht,u0]
     refine gives_put hE h (by decide) (by omega) fun _ h => ?_
     simp[ht,u0]
     exact k _ (h.more (by omega))
   · simp[ht,u0,hr]
     refine gives_put hE h (by decide) (by omega) fun _ h => ?_
     simp[ht,u0]
     exact k _ (h.more (by omega))
 · obtain⟨e,rfl⟩:∃ e,d=e+1:=⟨d - 1,by have:=hk (by omega);omega⟩
   change hi+(2 * (3 * (bT e+40)+40)+3 * bF+bC 1+bE 2+2000)≤800000000 at hb
   change ∀ H',MKx H0 H' mid nv N lo (hi+(2 * (3 * (bT e+40)+40)+3 * bF+bC 1+bE 2+2000)) p inn→Q (.val (.tuple #[])) H' at k
   have hbS:bS e=3 * (bT e+40)+40:=rfl
   have w1:IntKind.i64.wrap (e:Int)=e:=wrap64 _ (by omega) (by omega)
   simp only[Int.natCast_add,Int.natCast_one,Int.natCast_succ]at u1
   simp[ht,u0,u4]
   refine gives_put hE h (by decide) (by omega) fun _ h => ?_
   simp[ht,u0]
   refine gives_num hE hN hl h (by omega) (by omega) (by omega) fun _ h => ?_
   simp[ht,u0]
   refine gives_put hE h (by decide) (by omega) fun _ h => ?_
   simp[ht,u0,u1,w1]
   refine hrec e rfl h hin (by omega) fun _ h => ?_
   simp[ht,u0]
   refine gives_put hE h (by decide) (by omega) fun _ h => ?_
   simp[ht,u0]
   exact k _ (h.more (by omega))
 · simp[ht,u0,u4]
   refine gives_put hE h (by decide) (by omega) fun _ h => ?_
   simp[ht,u0]
   refine gives_num hE hN hl h (by omega) (by omega) (by omega) fun _ h => ?_
   simp[ht,u0]
   refine gives_put hE h (by decide) (by omega) fun _ h => ?_
   simp[ht,u0]
   refine gives_expr hE hN hl 1 (by omega) h hin rfl (by omega) fun _ h => ?_
   simp[ht,u0]
   exact k _ (h.more (by omega))
 · obtain⟨a,left,b,n,o1⟩:=h.row
   by_cases hp:p=3
   · simp[ht,u0,u4,o1,hp]
     refine gives_next hE hN hl h (by omega) (by omega) fun r _ r1 r2 h => ?_
     by_cases hr:0<r
     · simp[ht,u0,hr]
       refine gives_put hE h (by decide) (by omega) fun _ h => ?_
       simp[ht,u0]
       exact k _ (h.more (by omega))
     · simp[ht,u0,hr]
       obtain⟨r,H2,e1,r1,r3,h⟩:=callee_ok hE hN hl h hp0 hp3
       obtain⟨s,hs,e2⟩:=itoa_ok hE r (by omega) (by omega) H2
       have f1:=fun a b=>bin_cat2 a b ⟨#[112]⟩ s (by rw[c1];omega)
       have f2:=fun a b=>bin_cat2 a b (⟨#[112]⟩++s) ⟨#[40]⟩ (by rw[ByteArray.size_append,c1,c2];omega)
       simp[ht,u0,e1,e2,f1,f2]
       refine gives_put hE h (s:=⟨#[112]⟩++s ++ ⟨#[40]⟩) (by simp only[ByteArray.size_append,c1,c2];omega) (by omega) fun _ h => ?_
       simp[ht,u0]
       refine gives_expr hE hN hl 1 (by omega) h hin rfl (by omega) fun _ h => ?_
       simp[ht,u0]
       refine gives_put hE h (by decide) (by omega) fun _ h => ?_
       simp[ht,u0]
       exact k _ (h.more (by omega))
   · simp[ht,u0,u4,o1,hp]
     obtain⟨r,H2,e1,r1,r3,h⟩:=callee_ok hE hN hl h hp0 hp3
     obtain⟨s,hs,e2⟩:=itoa_ok hE r (by omega) (by omega) H2
     have f1:=fun a b=>bin_cat2 a b ⟨#[112]⟩ s (by rw[c1];omega)
     have f2:=fun a b=>bin_cat2 a b (⟨#[112]⟩++s) ⟨#[40]⟩ (by rw[ByteArray.size_append,c1,c2];omega)
     simp[ht,u0,e1,e2,f1,f2]
     refine gives_put hE h (s:=⟨#[112]⟩++s ++ ⟨#[40]⟩) (by simp only[ByteArray.size_append,c1,c2];omega) (by omega) fun _ h => ?_
     simp[ht,u0]
     refine gives_expr hE hN hl 1 (by omega) h hin rfl (by omega) fun _ h => ?_
     simp[ht,u0]
     refine gives_put hE h (by decide) (by omega) fun _ h => ?_
     simp[ht,u0]
     exact k _ (h.more (by omega))
 · simp[ht,u0,u4]
   refine gives_put hE h (by decide) (by omega) fun _ h => ?_
   simp[ht,u0]
   exact k _ (h.more (by omega))
 · simp[ht,u0,u4]
   refine gives_put hE h (by decide) (by omega) fun _ h => ?_
   simp[ht,u0]
   exact k _ (h.more (by omega))
 · simp[ht,u0,u4]
   refine gives_put hE h (by decide) (by omega) fun _ h => ?_
   simp[ht,u0]
   refine gives_items hE hN hl h (by omega) fun _ h => ?_
   simp[ht,u0]
   exact k _ (h.more (by omega))
 · simp[ht,u0,u4]
   refine gives_put hE h (by decide) (by omega) fun _ h => ?_
   simp[ht,u0]
   refine gives_items hE hN hl h (by omega) fun _ h => ?_
   simp[ht,u0]
   exact k _ (h.more (by omega))
 · simp[ht,u0,u4]
   refine gives_put hE h (by decide) (by omega) fun _ h => ?_
   simp[ht,u0]
   refine gives_items hE hN hl h (by omega) fun _ h => ?_
   simp[ht,u0]
   exact k _ (h.more (by omega))
 · simp[ht,u0,u4]
   refine gives_put hE h (by decide) (by omega) fun _ h => ?_
   simp[ht,u0]
   refine gives_next hE hN hl h (by omega) (by omega) fun r _ r1 r2 h => ?_
   simp[ht,u0]
   refine gives_idx2 (by decide) (by decide) (by omega) (by omega) fun s hs => ?_
   simp[ht,u0]
   refine gives_put hE h hs (by omega) fun _ h => ?_
   simp[ht,u0]
   exact k _ (h.more (by omega))
 · simp[ht,u0,u4]
   refine gives_put hE h (by decide) (by omega) fun _ h => ?_
   simp[ht,u0]
   refine gives_expr hE hN hl 2 (by omega) h hin rfl (by omega) fun _ h => ?_
   simp[ht,u0]
   exact k _ (h.more (by omega))
 · simp[ht,u0,u4]
   refine gives_put hE h (by decide) (by omega) fun _ h => ?_
   simp[ht,u0]
   refine gives_expr hE hN hl 2 (by omega) h hin rfl (by omega) fun _ h => ?_
   simp[ht,u0]
   exact k _ (h.more (by omega))
 · obtain⟨e,rfl⟩:∃ e,d=e+1:=⟨d - 1,by have:=hk (by omega);omega⟩
   change hi+(2 * (3 * (bT e+40)+40)+3 * bF+bC 1+bE 2+2000)≤800000000 at hb
   change ∀ H',MKx H0 H' mid nv N lo (hi+(2 * (3 * (bT e+40)+40)+3 * bF+bC 1+bE 2+2000)) p inn→Q (.val (.tuple #[])) H' at k
   have hbS:bS e=3 * (bT e+40)+40:=rfl
   have w1:IntKind.i64.wrap (e:Int)=e:=wrap64 _ (by omega) (by omega)
   simp only[Int.natCast_add,Int.natCast_one,Int.natCast_succ]at u1
   simp[ht,u0,u1,u4]
   refine region_of hE hN hl (by omega) (hrec e rfl) h hin (by omega) fun _ h => ?_
   simp[ht,u0]
   exact k _ (h.more (by omega))
 · obtain⟨e,rfl⟩:∃ e,d=e+1:=⟨d - 1,by have:=hk (by omega);omega⟩
   change hi+(2 * (3 * (bT e+40)+40)+3 * bF+bC 1+bE 2+2000)≤800000000 at hb
   change ∀ H',MKx H0 H' mid nv N lo (hi+(2 * (3 * (bT e+40)+40)+3 * bF+bC 1+bE 2+2000)) p inn→Q (.val (.tuple #[])) H' at k
   have hbS:bS e=3 * (bT e+40)+40:=rfl
   have w1:IntKind.i64.wrap (e:Int)=e:=wrap64 _ (by omega) (by omega)
   simp only[Int.natCast_add,Int.natCast_one,Int.natCast_succ]at u1
   simp[ht,u0,u1,u4]
   refine region_of hE hN hl (by omega) (hrec e rfl) h hin (by omega) fun _ h => ?_
   simp[ht,u0]
   exact k _ (h.more (by omega))
 · obtain⟨a,left,b,n,o1⟩:=h.row
   by_cases hp:p=3
   · rcases hin with rfl | rfl | rfl
     all_goals
      simp[ht,u0,u4,o1,hp]
      refine gives_put hE h (by decide) (by omega) fun _ h => ?_
      simp[ht,u0]
      exact k _ (h.more (by omega))
   · rcases hin with rfl | rfl | rfl
     · simp[ht,u0,u4,o1,hp]
       refine gives_fork hE hN hl h (by unfold InOK;simp) hp0 hp3 (by omega) fun _ h => ?_
       simp
       exact k _ (h.more (by omega))
     · simp[ht,u0,u4,o1,hp]
       refine gives_put hE h (by decide) (by omega) fun _ h => ?_
       simp[ht,u0]
       exact k _ (h.more (by omega))
     · simp[ht,u0,u4,o1,hp]
       refine gives_put hE h (by decide) (by omega) fun _ h => ?_
       simp[ht,u0]
       exact k _ (h.more (by omega))
 · obtain⟨a,left,b,n,o1⟩:=h.row
   by_cases hp:p=3
   · rcases hin with rfl | rfl | rfl
     all_goals
      simp[ht,u0,u4,o1,hp]
      refine gives_put hE h (by decide) (by omega) fun _ h => ?_
      simp[ht,u0]
      exact k _ (h.more (by omega))
   · rcases hin with rfl | rfl | rfl
     · simp[ht,u0,u4,o1,hp]
       refine gives_fork hE hN hl h (by unfold InOK;simp) hp0 hp3 (by omega) fun _ h => ?_
       simp
       exact k _ (h.more (by omega))
     · simp[ht,u0,u4,o1,hp]
       refine gives_put hE h (by decide) (by omega) fun _ h => ?_
       simp[ht,u0]
       exact k _ (h.more (by omega))
     · simp[ht,u0,u4,o1,hp]
       refine gives_put hE h (by decide) (by omega) fun _ h => ?_
       simp[ht,u0]
       exact k _ (h.more (by omega))
 · obtain⟨e,rfl⟩:∃ e,d=e+1:=⟨d - 1,by have:=hk (by omega);omega⟩
   change hi+(2 * (3 * (bT e+40)+40)+3 * bF+bC 1+bE 2+2000)≤800000000 at hb
   change ∀ H',MKx H0 H' mid nv N lo (hi+(2 * (3 * (bT e+40)+40)+3 * bF+bC 1+bE 2+2000)) p inn→Q (.val (.tuple #[])) H' at k
   have hbS:bS e=3 * (bT e+40)+40:=rfl
   have w1:IntKind.i64.wrap (e:Int)=e:=wrap64 _ (by omega) (by omega)
   simp only[Int.natCast_add,Int.natCast_one,Int.natCast_succ]at u1
   simp[ht,u0,u4]
   refine gives_put hE h (by decide) (by omega) fun _ h => ?_
   simp[ht,u0]
   refine gives_items hE hN hl h (by omega) fun _ h => ?_
   simp[ht,u0]
   refine gives_put hE h (by decide) (by omega) fun _ h => ?_
   simp[ht,u0,u1,w1]
   refine hrec e rfl h hin (by omega) fun _ h => ?_
   simp[ht,u0]
   refine gives_put hE h (by decide) (by omega) fun _ h => ?_
   simp[ht,u0]
   exact k _ (h.more (by omega))
 · obtain⟨a,left,b,n,o1⟩:=h.row
   by_cases hp:p=3
   · simp[ht,u0,u4,o1,hp]
     refine gives_next hE hN hl h (by omega) (by omega) fun r _ r1 r2 h => ?_
     by_cases hr:0<r
     · simp[ht,u0,hr]
       refine gives_put hE h (by decide) (by omega) fun _ h => ?_
       simp[ht,u0]
       exact k _ (h.more (by omega))
     · simp[ht,u0,hr]
       obtain⟨r,H2,e1,r1,r3,h⟩:=callee_ok hE hN hl h hp0 hp3
       obtain⟨s,hs,e2⟩:=itoa_ok hE r (by omega) (by omega) H2
       have f1:=fun a b=>bin_cat2 a b ⟨#[112]⟩ s (by rw[c1];omega)
       have f2:=fun a b=>bin_cat2 a b (⟨#[112]⟩++s) ⟨#[40]⟩ (by rw[ByteArray.size_append,c1,c2];omega)
       simp[ht,u0,e1,e2,f1,f2]
       refine gives_put hE h (s:=⟨#[112]⟩++s ++ ⟨#[40]⟩) (by simp only[ByteArray.size_append,c1,c2];omega) (by omega) fun _ h => ?_
       simp[ht,u0]
       refine gives_expr hE hN hl 1 (by omega) h hin rfl (by omega) fun _ h => ?_
       simp[ht,u0]
       refine gives_put hE h (by decide) (by omega) fun _ h => ?_
       simp[ht,u0]
       exact k _ (h.more (by omega))
   · simp[ht,u0,u4,o1,hp]
     obtain⟨r,H2,e1,r1,r3,h⟩:=callee_ok hE hN hl h hp0 hp3
     obtain⟨s,hs,e2⟩:=itoa_ok hE r (by omega) (by omega) H2
     have f1:=fun a b=>bin_cat2 a b ⟨#[112]⟩ s (by rw[c1];omega)
     have f2:=fun a b=>bin_cat2 a b (⟨#[112]⟩++s) ⟨#[40]⟩ (by rw[ByteArray.size_append,c1,c2];omega)
     simp[ht,u0,e1,e2,f1,f2]
     refine gives_put hE h (s:=⟨#[112]⟩++s ++ ⟨#[40]⟩) (by simp only[ByteArray.size_append,c1,c2];omega) (by omega) fun _ h => ?_
     simp[ht,u0]
     refine gives_expr hE hN hl 1 (by omega) h hin rfl (by omega) fun _ h => ?_
     simp[ht,u0]
     refine gives_put hE h (by decide) (by omega) fun _ h => ?_
     simp[ht,u0]
     exact k _ (h.more (by omega))
end
theorem MKx.turn2 {H0 H:Heap}{mid:Nat}{nv:Value}{N:List Int}{lo hi:Nat}{p:Int}{inn:ByteArray}(h:MKx H0 H mid nv N lo hi p inn):∃ (a:Nat)(left:Int)(b:Option Addr)(n:Nat),H.get mid = .row true 0 1 [nv,.int .i64 a,.slice b n n,.int .i64 p,.string inn,.int .i64 left] ∧
  ∀ (p':Int),MKx H0 (H.set mid (.row true 0 1 [nv,.int .i64 a,.slice b n n,.int .i64 p',.string inn,.int .i64 left])) mid nv N lo hi p' inn:=by
 obtain⟨a,left,ov,out,hm⟩:=h
 obtain⟨b,rfl⟩:=hm.go.slice
 exact⟨a,left,b,out.length,hm.obj,fun p'=>⟨a,left,_,out,MK.turn hm hm.ha p' inn left⟩⟩
def bX:Nat:=240+bS 2
def TxI (H0:Heap)(mid:Nat)(nv:Value)(N:List Int)(lo hi:Nat)(m:Nat)(t:List Value)(K:Heap):Prop :=
 ∃ i:Nat,i≤3∧m=3 - i∧rd t 4 = .int .i64 ((i:Int)+1)∧∃ p,MKx H0 K mid nv N lo (hi+i * bX) p ByteArray.empty
section
variable {E:Hooks} (hE:Plain E) {H0:Heap} {mid:Nat} {nv:Value} {N:List Int} (hN:SL H0 nv N) (hl:N.length≤100000)
include hE
theorem gives_putB {H:Heap}{lo hi:Nat}{p:Int}{inn:ByteArray}(h:MKx H0 H mid nv N lo hi p inn)(B:Nat){s:ByteArray}{Q:Out→Heap→Prop}(hs:s.size≤B)(hb:hi+B≤900000000)
  (k:∀ H',MKx H0 H' mid nv N lo (hi+B) p inn→Q (.val (.tuple #[])) H'):Gives ((run Tryz.prog E).call 42 [.pointer (some ⟨mid,0,none⟩),.string s] H) Q:=by
 obtain⟨H',e,h'⟩:=put_ok hE h s (by omega)
 exact⟨_,_,e,k H' ((h'.low (Nat.le_add_right _ _)).more (by omega))⟩
theorem gives_put1 {H:Heap}{lo hi:Nat}{p:Int}{inn:ByteArray}(h:MKx H0 H mid nv N lo hi p inn)(B:Nat){s:ByteArray}{Q:Out→Heap→Prop}(h1:1≤s.size)(hs:s.size≤B)(hb:hi+B≤900000000)
  (k:∀ H',MKx H0 H' mid nv N 1 (hi+B) p inn→Q (.val (.tuple #[])) H'):Gives ((run Tryz.prog E).call 42 [.pointer (some ⟨mid,0,none⟩),.string s] H) Q:=by
 obtain⟨H',e,h'⟩:=put_ok hE h s (by omega)
 exact⟨_,_,e,k H' ((h'.low (by omega)).more (by omega))⟩
include hN hl
theorem stmts_ok {p:Int}(hp0:0≤p)(hp3:p≤3):∀ d:Nat,d≤3→StmtOK E H0 mid nv N p 46 d (bS d):=by
 intro d
 induction d with
 | zero=>exact fun hd=>stmts_of hE hN hl (stmt_of hE hN hl hp0 hp3 hd (fun e he=>by cases he))
 | succ d ih=>exact fun hd=>stmts_of hE hN hl (stmt_of hE hN hl hp0 hp3 hd (fun e he=>by cases he;exact ih (by omega)))
theorem gives_stmts (d:Nat)(hd:d≤3){H:Heap}{lo hi:Nat}{p:Int}{inn:ByteArray}(h:MKx H0 H mid nv N lo hi p inn)(hin:InOK inn)(hp0:0≤p)(hp3:p≤3){z:Int}{Q:Out→Heap→Prop}(hz:z=d)(hb:hi+bS d≤800000000)
  (k:∀ H',MKx H0 H' mid nv N lo (hi+bS d) p inn→Q (.val (.tuple #[])) H'):Gives ((run Tryz.prog E).call 46 [.pointer (some ⟨mid,0,none⟩),.int .i64 z] H) Q:=by
 subst hz
 exact stmts_ok hE hN hl hp0 hp3 d hd h hin hb k
end
section
variable {E:Hooks} (hE:Plain E)
include hE
theorem c_mtext (args:List Value)(H:Heap):(run Tryz.prog E).call 15 args H=callB Tryz.prog E Tryz.f15 args H:=call_B Tryz.func15 rfl (by decide +kernel) (hE.no _ rfl rfl) args H
theorem text_ok {H:Heap}{nv:Value}{N:List Int}(hN:SL H nv N)(hl:N.length≤100000):∃ (b:Option Addr)(out:List UInt8)(H':Heap),(run Tryz.prog E).call 15 [nv] H=some (.val (.slice b out.length out.length),H')∧Same (fun _=>False) H H'∧OutS H' (fun i=>H.n≤i) (.slice b out.length out.length) out∧1≤out.length∧out.length≤100000000:=by
 suffices key:Gives ((run Tryz.prog E).call 15 [nv] H) fun o H'=>∃ (b:Option Addr) (out:List UInt8),o = .val (.slice b out.length out.length)∧Same (fun _=>False) H H'∧OutS H' (fun i=>H.n≤i) (.slice b out.length out.length) out∧1≤out.length∧out.length≤100000000 by
  obtain⟨o,H',e,b,out,rfl,k⟩:=key
  exact⟨b,out,H',e,k⟩
 obtain⟨b0,n0,c0,rfl⟩:=hN.slice
 have hbX:bX=240+bS 2:=rfl
 have hS2:bS 2≤2000000:=by decide +kernel
 have hS1:bS 1≤1000000:=by decide +kernel
 have hF:bF≤10000:=by decide +kernel
 have c1:(⟨#[112,114,111,99,101,100,117,114,101,32,112]⟩:ByteArray).size=11:=rfl
 have c2:(⟨#[40,120,41,59,10,98,101,103,105,110,32]⟩:ByteArray).size=11:=rfl
 have h:MKx H (H.push (.row true 0 1 [.slice b0 n0 c0,.int .i64 ((0:Nat):Int),.slice none 0 0,.int .i64 0,.string ByteArray.empty,.int .i64 60])) H.n (.slice b0 n0 c0) N 0 0 0 ByteArray.empty :=
  ⟨0,60,.slice none 0 0,[],Same.push _ _ _,Nat.le_refl _,Heap.get_push_self _ _,Nat.zero_le _,.inl ⟨rfl,rfl⟩,Nat.le_refl _,Nat.le_refl _⟩
 rw[c_mtext hE,callB,bodyOf]
 simp[Tryz.f15]
 refine gives_put1 hE h 80 (by decide) (by decide) (by omega) fun _ h => ?_
 simp
 refine gives_next hE hN hl h (by omega) (by omega) fun r H2 r1 r2 h => ?_
 obtain⟨s,hs,e⟩:=itoa_ok hE (1+r) (by omega) (by omega) H2
 simp[wrap64 (1+r) (by omega) (by omega),e]
 refine gives_putB hE h 80 (by omega) (by omega) fun _ h => ?_
 simp
 refine gives_putB hE h 80 (by decide) (by omega) fun _ h => ?_
 simp
 refine gives_next hE hN hl h (by omega) (by omega) fun r H2 r1 r2 h => ?_
 obtain⟨s,hs,e⟩:=itoa_ok hE (1+r) (by omega) (by omega) H2
 simp[wrap64 (1+r) (by omega) (by omega),e]
 refine gives_putB hE h 80 (by omega) (by omega) fun _ h => ?_
 simp
 refine gives_putB hE h 80 (by decide) (by omega) fun _ h => ?_
 simp
 refine gives_num hE hN hl h (by omega) (by omega) (by omega) fun _ h => ?_
 simp
 refine gives_putB hE h 80 (by decide) (by omega) fun K0 h => ?_
 simp
 refine loop_mid2 (fun t K=>∃ p,MKx H K H.n (.slice b0 n0 c0) N 1 (600+3 * bX) p ByteArray.empty) (TxI H H.n (.slice b0 n0 c0) N 1 600) 3 ?_ ?_ ?_
 · exact⟨0,by omega,rfl,by simp,0,h.more (by omega)⟩
 · rintro m t K hkk ⟨i,hi',rfl,g4,p,h⟩
   have ht:t.length=77:=hkk.1.trans (by simp[len_Bs])
   have hh:=hkk.all [0,3] (by decide +kernel)
   simp at hh
   obtain⟨u0,u3⟩:=hh
   have him:i * bX≤3 * bX:=Nat.mul_le_mul_right _ hi'
   rcases Nat.lt_or_ge i 3 with hlt | hge
   · obtain⟨a,left,b,n,o1,htn⟩:=h.turn2
     have h:=htn ((i:Int)+1)
     have w1:IntKind.i64.wrap ((i:Int)+1+1)=(i:Int)+1+1:=wrap64 _ (by omega) (by omega)
     obtain⟨s,hs,e⟩:=itoa_ok hE ((i:Int)+1) (by omega) (by omega) (K.set H.n (.row true 0 1 [.slice b0 n0 c0,.int .i64 a,.slice b n n,.int .i64 ((i:Int)+1),.string ByteArray.empty,.int .i64 left]))
     have f1:=fun a b=>bin_cat2 a b ⟨#[112,114,111,99,101,100,117,114,101,32,112]⟩ s (by rw[c1];omega)
     have f2:=fun a b=>bin_cat2 a b (⟨#[112,114,111,99,101,100,117,114,101,32,112]⟩++s) ⟨#[40,120,41,59,10,98,101,103,105,110,32]⟩ (by rw[ByteArray.size_append,c1,c2];omega)
     simp[ht,u3,g4,o1,show (i:Int)+1≤3 by omega,e,f1,f2]
     refine gives_putB hE h 80 (s:=⟨#[112,114,111,99,101,100,117,114,101,32,112]⟩++s ++ ⟨#[40,120,41,59,10,98,101,103,105,110,32]⟩) (by simp only[ByteArray.size_append,c1,c2];omega) (by omega) fun _ h => ?_
     simp[ht,u3]
     refine gives_stmts hE hN hl 2 (by omega) h (.inl rfl) (by omega) (by omega) rfl (by omega) fun _ h => ?_
     simp[ht,u3]
     refine gives_putB hE h 80 (by decide) (by omega) fun _ h => ?_
     simp[ht,g4,w1]
     exact⟨3 - (i+1),by omega,i+1,by omega,rfl,by simp[ht],_,h.more (by rw[Nat.add_mul];omega)⟩
   · simp[ht,g4,show ¬(i:Int)+1≤3 by omega]
     exact⟨p,h.more (by omega)⟩
 · rintro t K hkk ⟨p,h⟩
   have ht:t.length=77:=hkk.1.trans (by simp[len_Bs])
   have hh:=hkk.all [3] (by decide +kernel)
   simp at hh
   obtain⟨a,left,b,n,o1,htn⟩:=h.turn2
   have h:=htn 0
   simp[ht,hh,o1]
   refine gives_putB hE h 80 (by decide) (by omega) fun _ h => ?_
   simp[ht,hh]
   refine gives_next hE hN hl h (by omega) (by omega) fun r H2 r1 r2 h => ?_
   obtain⟨s,hs,e⟩:=itoa_ok hE (1+r) (by omega) (by omega) H2
   simp[ht,hh,wrap64 (1+r) (by omega) (by omega),e]
   refine gives_putB hE h 80 (by omega) (by omega) fun _ h => ?_
   simp[ht,hh]
   refine gives_putB hE h 80 (by decide) (by omega) fun _ h => ?_
   simp[ht,hh]
   refine gives_stmts hE hN hl 2 (by omega) h (.inl rfl) (by omega) (by omega) rfl (by omega) fun _ h => ?_
   simp[ht,hh]
   refine gives_putB hE h 80 (by decide) (by omega) fun _ h => ?_
   simp[ht,hh]
   refine gives_fork hE hN hl h (.inl rfl) (by omega) (by omega) (by omega) fun _ h => ?_
   simp[ht,hh]
   refine gives_putB hE h 80 (by decide) (by omega) fun _ h => ?_
   simp[ht,hh]
   refine gives_stmts hE hN hl 1 (by omega) h (.inl rfl) (by omega) (by omega) rfl (by omega) fun _ h => ?_
   simp[ht,hh]
   refine gives_putB hE h 80 (by decide) (by omega) fun K9 h => ?_
   obtain⟨a9,left9,ov9,out9,hm⟩:=h
   obtain⟨b9,rfl⟩:=hm.go.slice
   have o9:=hm.obj
   simp[ht,hh,o9]
   exact⟨b9,out9,⟨rfl,rfl⟩,⟨hm.kp.n,fun i hi _=>hm.kp.get i hi (Nat.not_le.2 hi)⟩,hm.go.move (Same.refl (fun _=>False) _) fun i hi _=>⟨hi.1,fun h=>h⟩,hm.lo,by have:=hm.hi;omega⟩
end
end Go.Vm.Make
namespace Go.Vm.Make
open Go Go.Proofs Go.Vm.Parse
def evK:List (Nat × Operand)→Option (List (Nat × Value))
 | []=>some []
 | (i, .const v) :: l => match ground v with
  | true=>(evK l).map ((i,v) :: ·)
  | false=>none
 | _ :: _=>none
theorem evK_evP (t:List Value):∀ {ps:List (Nat × Operand)} {l},evK ps=some l→evP t ps=some l
 | [],l,h=>h
 | (i, .const v) :: ps, l, h => by
  simp only[evK]at h
  cases hg:ground v with
  | false=>rw[hg]at h;cases h
  | true =>
   rw[hg]at h
   simp only[Option.map_eq_some_iff]at h
   obtain⟨l',h1,rfl⟩:=h
   simp only[evP,evA,evK_evP t h1,hg]
 | (i,.tmp _) :: _,l,h=>by cases h
 | (i,.func _) :: _,l,h=>by cases h
theorem bld_run {call:Nat→List Value→Heap→Option (Out × Heap)}{ty:TypeId}{ps:Array (Nat × Operand)}{t:List Value}{H:Heap}(v:Value)(h:(evK ps.toList).bind (fun l=>exBuild Tryz.prog ty l)=some v):exOp Tryz.prog call (.build ty ps) t H=some (.val v,H):=by
 cases hk:evK ps.toList with
 | none=>rw[hk]at h;cases h
 | some q =>
  rw[hk,Option.bind_some]at h
  rw[op_build,evK_evP t hk,Option.bind_some,h]
  rfl
theorem cut_pre {id tl len r k:Nat}{cs:List Value}{H:Heap}(hg:H.get id = .row true tl 1 cs)(hk:k≤len) :
  cutR id 0 len len 1 none (some (.int .i64 (k:Int))) r H=some (.slice (some ⟨id,0,none⟩) k len,H):=by
 unfold cutR
 simp only[boundOf,hg]
 rw[if_pos ⟨by omega,by omega,by omega⟩]
 cases tl with
 | zero=>simp
 | succ tl=>simp
theorem cut_suf {id tl len r k:Nat}{cs:List Value}{H:Heap}(hg:H.get id = .row true tl 1 cs)(htl:tl≤1)(hr:r<H.n)(hrd:r≠id)(hcs:cs.length=len)(hk:k≤len) :
  ∃ id' off' H',cutR id 0 len len 1 (some (.int .i64 (k:Int))) none r H=some (.slice (some ⟨id',off',none⟩) (len - k) (len - k),H')∧(id'=id∨id'=r)∧H'.n=H.n∧(∀ j,j≠r→H'.get j=H.get j) ∧
   cellsOf H' 1 (len - k) (.slice (some ⟨id',off',none⟩) (len - k) (len - k))=some (cs.drop k):=by
 unfold cutR
 simp only[boundOf,hg]
 rw[if_pos ⟨by omega,by omega,by omega⟩]
 have hd:(cs.drop k).take (len - k)=cs.drop k:=List.take_of_length_le (by rw[List.length_drop];omega)
 rcases (show tl=0∨tl=1 by omega)with rfl | rfl
 · by_cases c:len=k
   · subst c
     refine⟨id,0,H,by simp,.inl rfl,rfl,fun _ _=>rfl,?_⟩
     simp[hg,List.drop_eq_nil_of_le (show cs.length≤len by omega)]
   · refine⟨id,k,H,by simp[show ¬(len:Int)=k by omega],.inl rfl,rfl,fun _ _=>rfl,?_⟩
     simp[hg,show k+(len - k)≤cs.length by omega,hd]
 · by_cases c:len=k
   · subst c
     by_cases c0:len=0
     · subst c0
       refine⟨id,0,H,by simp,.inl rfl,rfl,fun _ _=>rfl,?_⟩
       simp[hg,List.eq_nil_of_length_eq_zero hcs]
     · refine⟨r,0,H.pushAt r (.row true 2 1 []),by simp[c0],.inr rfl,by rw[Heap.pushAt_lt hr];rfl,fun j hj=>by rw[Heap.get_pushAt (by omega),if_neg hj],?_⟩
       simp[Heap.get_pushAt (show r≤H.n by omega),List.drop_eq_nil_of_le (show cs.length≤len by omega)]
   · refine⟨id,k,H,by simp[show ¬(len:Int)=k by omega],.inl rfl,rfl,fun _ _=>rfl,?_⟩
     simp[hg,show k+(len - k)≤cs.length by omega,hd]
theorem cat_at {H:Heap}{id tl m q r:Nat}{cs cs':List Value}{x:Value}{tx:TypeId}(hu:Tryz.prog.underlying tx=some .string∨∃ e,Tryz.prog.underlying tx=some (.slice e))(hg:H.get id = .row true tl 1 cs)(htl:tl≤1)(hm:cs.length=m)
  (hr:r<H.n) (hne:r≠id) (hl:lenA x=some q) (hc:cellsOf H 1 q x=some cs') (hq:cs'.length=q) (hmq:m+q≤1000000000) :
  ∃ id' tl' H',exAppendAt Tryz.prog [34,tx] (.slice (some ⟨id,0,none⟩) m m) x r H=some (.slice (some ⟨id',0,none⟩) (m+q) (m+q),H')∧(id'=id∨id'=r)∧tl'≤1∧H'.get id' = .row true tl' 1 (cs++cs')∧H'.n=H.n∧∀ j,j≠r→j≠id→H'.get j=H.get j:=by
 have hid:=Heap.lt_of_get hg (by simp)
 have h1:elemT Tryz.prog 34=some 5:=by kernel_rfl
 have h2:sizeT Tryz.prog 5=some 1:=by kernel_rfl
 have h3:bytesT Tryz.prog 5=some 1:=by kernel_rfl
 have h4:zeroT Tryz.prog 5=some (.int .u8 0):=by kernel_rfl
 have hz:(Value.int .u8 0).cells.toList.length=1:=rfl
 have f5:cs.take m=cs:=List.take_of_length_le (by omega)
 have f1:m+q+200≤140737488355328:=by omega
 have f2:m+q≤140737488355328:=by omega
 have f3:m+q≤140737488355128:=by omega
 have key:exAppendAt Tryz.prog [34,tx] (.slice (some ⟨id,0,none⟩) m m) x r H=exAppendRow Tryz.prog 5 (some ⟨id,0,none⟩) m m x r (fun H o=>H.pushAt r o) H:=by
  rcases hu with hu | ⟨e,hu⟩<;>simp only[exAppendAt,h1,hu]
 rw[key]
 by_cases h0:q=0
 · subst h0
   refine⟨id,tl,H,?_,.inl rfl,htl,by rw[List.eq_nil_of_length_eq_zero hq,List.append_nil];exact hg,rfl,fun _ _ _=>rfl⟩
   simp only[exAppendRow,h2,h3,h4,hl,hc]
   simp[hz,show m+200≤140737488355328 by omega,show m≤140737488355328 by omega,show m≤140737488355128 by omega]
 · rcases (show tl=0∨tl=1 by omega)with rfl | rfl
   · refine⟨r,1,H.pushAt r (.row true 1 1 (cs++cs')),?_,.inr rfl,Nat.le_refl _,by rw[Heap.get_pushAt (by omega),if_pos rfl],by rw[Heap.pushAt_lt hr];rfl,fun j h1 h2=>by rw[Heap.get_pushAt (by omega),if_neg h1]⟩
     simp only[exAppendRow,h2,h3,h4,hl,hc,hg]
     simp[hz,h0,f1,f2,f3,f5,hm]
     omega
   · refine⟨r,1,(H.set id .dead).pushAt r (.row true 1 1 (cs++cs')),?_,.inr rfl,Nat.le_refl _,by rw[Heap.get_pushAt (by simp;omega),if_pos rfl],by rw[Heap.pushAt_lt (by simpa using hr)];rfl,fun j h1 h2=>by rw[Heap.get_pushAt (by simp;omega),if_neg h1,Heap.get_set _ _ _ hid,if_neg h2]⟩
     simp only[exAppendRow,h2,h3,h4,hl,hc,hg]
     simp[hz,h0,f1,f2,f3,f5,hm]
     omega
end Go.Vm.Make
namespace Go.Vm.Wi
open Go Go.Proofs Go.Vm.Parse
attribute [local simp] rd_Fr
section
variable {E:Hooks} (hE:Plain E)
include hE
theorem c_within2 (args:List Value)(H:Heap):(run Tryz.prog E).call 17 args H=callB Tryz.prog E Tryz.f17 args H:=call_B Tryz.func17 rfl (by decide +kernel) (hE.no _ rfl rfl) args H
theorem within_any {x:Int}(hx:Lit.wf (.int .i64 x)=true)(lo hi:Int)(h0:0≤lo)(h1:lo≤hi)(h2:hi≤1000000000) :
  ∃ k:Nat,lo≤k∧(k:Int)≤hi∧∀ H,(run Tryz.prog E).call 17 [.int .i64 x,.int .i64 lo,.int .i64 hi] H=some (.val (.int .i64 k),H):=by
 suffices key:∃ k:Nat,lo≤k∧(k:Int)≤hi∧∀ H,Gives ((run Tryz.prog E).call 17 [.int .i64 x,.int .i64 lo,.int .i64 hi] H) fun o H'=>o = .val (.int .i64 k)∧H'=H by
  obtain⟨k,h3,h4,h5⟩:=key
  refine⟨k,h3,h4,fun H => ?_⟩
  obtain⟨o,H',e,rfl,rfl⟩:=h5 H
  exact e
 have w1:IntKind.i64.wrap (hi - lo)=hi - lo:=wrap64 _ (by omega) (by omega)
 have w2:IntKind.i64.wrap (hi - lo+1)=hi - lo+1:=wrap64 _ (by omega) (by omega)
 have hb : -(hi - lo+1)<x.tmod (hi - lo+1)∧x.tmod (hi - lo+1)<hi - lo+1:=by
  have h1:=Int.tmod_lt_of_pos x (show (0:Int)<hi - lo+1 by omega)
  have h2:=Int.neg_tmod x (hi - lo+1)
  have h3:=Int.tmod_lt_of_pos (-x) (show (0:Int)<hi - lo+1 by omega)
  omega
 have hr:=fun ty a b=>bin_rem (P:=Tryz.prog) ty a b .i64 x (hi - lo+1) (by omega)
 generalize x.tmod (hi - lo+1)=y at hb hr
 by_cases hy:y<0
 · have w3:IntKind.i64.wrap (y+hi)=y+hi:=wrap64 _ (by omega) (by omega)
   have w4:IntKind.i64.wrap (y+hi - lo)=y+hi - lo:=wrap64 _ (by omega) (by omega)
   have w5:IntKind.i64.wrap (y+hi - lo+1)=y+hi - lo+1:=wrap64 _ (by omega) (by omega)
   have w6:IntKind.i64.wrap (lo+(y+hi - lo+1))=lo+(y+hi - lo+1):=wrap64 _ (by omega) (by omega)
   refine⟨(lo+(y+hi - lo+1)).toNat,by omega,by omega,fun H => ?_⟩
   rw[c_within2 hE,callB,bodyOf]
   simp[Tryz.f17,w1,w2,hr,hy,w3,w4,w5,w6]
   omega
 · have w6:IntKind.i64.wrap (lo+y)=lo+y:=wrap64 _ (by omega) (by omega)
   refine⟨(lo+y).toNat,by omega,by omega,fun H => ?_⟩
   rw[c_within2 hE,callB,bodyOf]
   simp[Tryz.f17,w1,w2,hr,hy,w6]
   omega
end
end Go.Vm.Wi
namespace Go.Vm.Make
open Go Go.Proofs Go.Vm.Parse
attribute [local simp] repCells_succ writeAt rd_Fr toList_beq gpe gpn spe gse gsn
def swW:List ByteArray:=[⟨#[103]⟩,⟨#[104]⟩,⟨#[118]⟩,⟨#[119]⟩,⟨#[115]⟩,⟨#[97]⟩,⟨#[98]⟩,⟨#[120]⟩,⟨#[112,49]⟩,⟨#[112,50]⟩,⟨#[122,122]⟩,⟨#[48]⟩,⟨#[55]⟩,⟨#[116,114,117,101]⟩,⟨#[103,32,43,32,49]⟩,⟨#[104,91,49,93]⟩,⟨#[119,91,48,93]⟩,⟨#[118,32,61,32,49]⟩,⟨#[110,111,116,32,116,114,117,101]⟩,⟨#[103,32,60,32,49]⟩,⟨#[40,103,41]⟩,⟨#[49,48,48,49]⟩,⟨#[97,32,49,44,32,97]⟩,⟨#[120,32,43,32,49]⟩]
theorem swW_ok:∀ w∈swW,0<w.size∧w.size≤10:=by decide +kernel
theorem no_swap:planOf Tryz.prog (drawN Tryz.f6 0)=none:=by decide +kernel
theorem la_swap:lateAt (drawN Tryz.f6 0)=none:=by decide +kernel
theorem pre_swap:preOf (drawN Tryz.f6 0)=[0,0,0,6,15,0,63,127,255,511,0,0,3072,8191,16383]:=by decide +kernel
theorem ok_swap:freeOK (drawN Tryz.f6 0) [0,0,0,6,15,0,63,127,255,511,0,0,3072,8191,16383]=true:=by decide +kernel
theorem ne_swap:needAll (drawN Tryz.f6 0)=6:=by decide +kernel
section
variable {E:Hooks} (hE:Plain E)
include hE
theorem c_word (args:List Value)(H:Heap):(run Tryz.prog E).call 16 args H=callB Tryz.prog E Tryz.f16 args H:=call_B Tryz.func16 rfl (by decide +kernel) (hE.no _ rfl rfl) args H
theorem c_swapped (args:List Value)(H:Heap):(run Tryz.prog E).call 6 args H=callB Tryz.prog E Tryz.f6 args H:=call_B Tryz.func6 rfl (by decide +kernel) (hE.no _ rfl rfl) args H
theorem word_run {H:Heap}{id tl:Nat}{out:List UInt8}(hg:H.get id = .row true tl 1 (out.map byteC))(hl:out.length≤1000000000){a:Nat}(ha:a≤out.length) :
  ∃ f t:Nat,f≤t∧t≤out.length∧(run Tryz.prog E).call 16 [.slice (some ⟨id,0,none⟩) out.length out.length,.int .i64 (a:Int)] H=some (.val (.tuple #[.int .i64 (f:Int),.int .i64 (t:Int)]),H):=by
 suffices key:Gives ((run Tryz.prog E).call 16 [.slice (some ⟨id,0,none⟩) out.length out.length,.int .i64 (a:Int)] H) fun o H'=>H'=H∧∃ f t:Nat,f≤t∧t≤out.length∧o = .val (.tuple #[.int .i64 (f:Int),.int .i64 (t:Int)]) by
  obtain⟨o,H',e,rfl,f,t,h1,h2,rfl⟩:=key
  exact⟨f,t,h1,h2,e⟩
 rw[c_word hE,callB,bodyOf]
 simp[Tryz.f16]
 refine loop_mid2 (fun t K=>K=H∧∃ f:Nat,f≤out.length∧rd t 1 = .int .i64 (f:Int)) (fun m t K=>K=H∧∃ f:Nat,f≤out.length∧m=out.length - f∧rd t 1 = .int .i64 (f:Int)) (out.length - a) ?_ ?_ ?_
 · exact⟨rfl,a,ha,rfl,by simp⟩
 · rintro m t K hk ⟨rfl,f,hf,rfl,g1⟩
   have ht:t.length=79:=hk.1.trans (by simp[len_Bs])
   have hh:=hk.all [0] (by decide +kernel)
   simp[]at hh
   have w1:=wrap64 ((f:Int)+1) (by omega) (by omega)
   rcases Nat.lt_or_ge f out.length with hlt | hge
   · have hb:(out.map byteC)[f]'(by simpa using hlt) = .int .u8 (out[f].toNat:Int):=by simp[byteC]
     generalize out[f]=b at *
     by_cases d1:(97:Int)≤b.toNat
     · by_cases d2:(b.toNat:Int)≤122
       · simp[ht,hh,g1,hg,hlt,byteC,hb,d1,d2,w1]
         exact⟨f,by omega,rfl⟩
       · by_cases d3:(48:Int)≤b.toNat
         · by_cases d4:(b.toNat:Int)≤57
           · omega
           · simp[ht,hh,g1,hg,hlt,byteC,hb,d1,d2,d3,d4,w1]
             exact⟨out.length - (f+1),by omega,f+1,by omega,rfl,by simp[ht]⟩
         · omega
     · by_cases d3:(48:Int)≤b.toNat
       · by_cases d4:(b.toNat:Int)≤57
         · simp[ht,hh,g1,hg,hlt,byteC,hb,d1,d3,d4,w1]
           exact⟨f,by omega,rfl⟩
         · simp[ht,hh,g1,hg,hlt,byteC,hb,d1,d3,d4,w1]
           exact⟨out.length - (f+1),by omega,f+1,by omega,rfl,by simp[ht]⟩
       · simp[ht,hh,g1,hg,hlt,byteC,hb,d1,d3,w1]
         exact⟨out.length - (f+1),by omega,f+1,by omega,rfl,by simp[ht]⟩
   · simp[ht,hh,g1,show ¬f<out.length by omega]
     exact⟨f,by omega,rfl⟩
 · rintro t K hk ⟨rfl,f,hf,g1⟩
   have ht:t.length=79:=hk.1.trans (by simp[len_Bs])
   have hh:=hk.all [0] (by decide +kernel)
   simp at hh
   simp[ht,g1]
   refine loop_mid2 (fun t K'=>K'=K∧∃ e:Nat,f≤e∧e≤out.length∧rd t 6 = .int .i64 (e:Int)) (fun m t K'=>K'=K∧∃ e:Nat,f≤e∧e≤out.length∧m=out.length - e∧rd t 6 = .int .i64 (e:Int)) (out.length - f) ?_ ?_ ?_
   · exact⟨rfl,f,Nat.le_refl _,hf,rfl,by simp[ht]⟩
   · rintro m t' K' hk ⟨hKK,e,hfe,he,rfl,g6⟩
     subst hKK
     have ht':t'.length=79:=hk.1.trans (by simp[ht])
     have hh':=hk.all [0] (by decide +kernel)
     simp[ht,hh]at hh'
     have w1:=wrap64 ((e:Int)+1) (by omega) (by omega)
     rcases Nat.lt_or_ge e out.length with hlt | hge
     · have hb:(out.map byteC)[e]'(by simpa using hlt) = .int .u8 (out[e].toNat:Int):=by simp[byteC]
       generalize out[e]=b at *
       by_cases d1:(97:Int)≤b.toNat
       · by_cases d2:(b.toNat:Int)≤122
         · simp[ht',hh',g6,hg,hlt,byteC,hb,d1,d2,w1]
           exact⟨out.length - (e+1),by omega,e+1,by omega,by omega,rfl,by simp[ht']⟩
         · by_cases d3:(48:Int)≤b.toNat
           · by_cases d4:(b.toNat:Int)≤57
             · omega
             · simp[ht',hh',g6,hg,hlt,byteC,hb,d1,d2,d3,d4,w1]
               exact⟨e,hfe,by omega,rfl⟩
           · omega
       · by_cases d3:(48:Int)≤b.toNat
         · by_cases d4:(b.toNat:Int)≤57
           · simp[ht',hh',g6,hg,hlt,byteC,hb,d1,d3,d4,w1]
             exact⟨out.length - (e+1),by omega,e+1,by omega,by omega,rfl,by simp[ht']⟩
           · simp[ht',hh',g6,hg,hlt,byteC,hb,d1,d3,d4,w1]
             exact⟨e,hfe,by omega,rfl⟩
         · simp[ht',hh',g6,hg,hlt,byteC,hb,d1,d3,w1]
           exact⟨e,hfe,by omega,rfl⟩
     · simp[ht',hh',g6,show ¬e<out.length by omega]
       exact⟨e,hfe,by omega,rfl⟩
   · rintro t' K' hk ⟨hKK,e,hfe,he,g6⟩
     subst hKK
     have ht':t'.length=79:=hk.1.trans (by simp[ht])
     have hh':=hk.all [1] (by decide +kernel)
     simp[ht,g1]at hh'
     simp[ht',hh',g6]
     exact⟨f,e,hfe,he,rfl,rfl⟩
theorem swapped_ok {H:Heap}{nv:Value}{N:List Int}(hN:SL H nv N)(hl:N.length≤100000){at_ by_:Int}(wa:Lit.wf (.int .i64 at_)=true)(wb:Lit.wf (.int .i64 by_)=true) :
  Gives ((run Tryz.prog E).call 6 [nv,.int .i64 at_,.int .i64 by_] H) fun o H'=>∃ (b:Option Addr) (out:List UInt8),o = .val (.slice b out.length out.length)∧Same (fun _=>False) H H'∧OutS H' (fun i=>H.n≤i) (.slice b out.length out.length) out∧out.length≤200000000:=by
 obtain⟨b0,c0,rfl⟩:∃ b c,nv = .slice b N.length c:=by obtain⟨b,c,rfl,_⟩:=hN;exact⟨b,c,rfl⟩
 obtain⟨b1,out,H1,e1,k1,g1,l1,l2⟩:=text_ok hE hN hl
 rcases g1 with⟨_,rfl⟩ | ⟨id,tl,hb,htl,hid,hg⟩
 · simp at l1
 simp only[Value.slice.injEq]at hb
 obtain⟨rfl,-⟩:=hb
 have hidn:=Heap.lt_of_get hg (by simp)
 obtain⟨k,-,hk1,ek⟩:=Wi.within_any hE wb 0 23 (by omega) (by omega) (by omega)
 obtain⟨a,-,ha1,ea⟩:=Wi.within_any hE wa 0 ((out.length:Int) - 1) (by omega) (by omega) (by omega)
 have w1:=wrap64 ((out.length:Int) - 1) (by omega) (by omega)
 rw[c_swapped hE,callB,bodyOf]
 simp[-op_build,Tryz.f6,e1]
 rw[bld_run (.agg ⟨swW.map Value.string⟩) (by kernel_rfl)]
 have hW:swW.length=24:=rfl
 simp[hW]
 obtain⟨K,hK⟩:∃ K,K=H1.push (.row true 0 1 (swW.map Value.string)):=⟨_,rfl⟩
 have kK:Same (fun _=>False) H1 K:=by rw[hK];exact Same.push _ _ _
 have nK:K.n=H1.n+1:=by rw[hK];rfl
 have gw:K.get H1.n = .row true 0 1 (swW.map Value.string):=by rw[hK];exact Heap.get_push_self _ _
 have gid:=kK.at hg (by simp) fun h=>h
 rw[← hK]
 obtain⟨f,t,hft,hto,ew⟩:=word_run hE gid (by omega) (a:=a) (by omega)
 simp[w1,ea,ew]
 refine region_free (by exact no_swap) (by exact la_swap) (by exact pre_swap) (by exact ok_swap) (by exact ne_swap) ?_
 obtain⟨K6,hK6⟩:∃ K6,K6=K.room 6:=⟨_,rfl⟩
 have n6:K6.n=K.n+6:=by rw[hK6,room_n]
 have gK6:∀ j,K6.get j=K.get j:=fun j=>by rw[hK6,room_get]
 rw[← hK6]
 obtain⟨S0,hS0⟩:∃ S0,S0=K6.set K.n (.row true 0 1 []):=⟨_,rfl⟩
 have n0:S0.n=K.n+6:=by rw[hS0];exact n6
 have s0:S0.get K.n = .row true 0 1 []:=by rw[hS0];exact Heap.get_set_self _ _ (by omega)
 have s0':∀ j,j≠K.n→S0.get j=K.get j:=fun j hj=>by rw[hS0,Heap.get_set _ _ _ (by omega),if_neg hj,gK6]
 have f0:exBuildSliceAt Tryz.prog 34 0 [] K.n K6=some (.slice (some ⟨K.n,0,none⟩) 0 0,S0):=by
  rw[hS0]
  have:K6.pushAt K.n (.row true 0 1 [])=K6.set K.n (.row true 0 1 []):=Heap.pushAt_lt (by omega) _
  rw[← this];rfl
 have gid0:=(s0' id (by omega)).trans gid
 have f3:=cut_pre (r:=K.n+1) (len:=out.length) gid0 (show f≤out.length by omega)
 have hu1:Tryz.prog.underlying 34=some (.slice 5):=by kernel_rfl
 have hu2:Tryz.prog.underlying 9=some .string:=by kernel_rfl
 have hcf:cellsOf S0 1 f (.slice (some ⟨id,0,none⟩) f out.length)=some ((out.take f).map byteC):=by
  simp[gid0,show f≤out.length by omega,List.map_take]
 obtain⟨i4,t4,S4,f4,h4,ht4,s4,n4,s4'⟩:=cat_at (r:=K.n+2) (.inr ⟨_,hu1⟩) s0 (by omega) (m:=0) rfl (by omega) (by omega) (x := .slice (some ⟨id,0,none⟩) f out.length) (q:=f) rfl hcf (by simp;omega) (by omega)
 simp only[Nat.zero_add,List.nil_append]at f4 s4
 have hk24:k<swW.length:=by rw[hW];omega
 obtain⟨w,hwW⟩:∃ w,swW[k]? = some w:=⟨_,List.getElem?_eq_getElem hk24⟩
 obtain⟨hw0,hw10⟩:=swW_ok w (List.mem_of_getElem? hwW)
 have hwk:(swW.map Value.string)[k]? = some (.string w):=by rw[List.getElem?_map,hwW];rfl
 have hwl:(swW.map Value.string).length=24:=by rw[List.length_map];exact hW
 have gw4:S4.get H1.n = .row true 0 1 (swW.map Value.string):=by rw[s4' _ (by omega) (by omega),s0' _ (by omega)];exact gw
 clear gw
 generalize swW.map Value.string=WW at *
 have hws:w.size=w.data.toList.length:=by obtain⟨⟨l⟩⟩:=w;rfl
 have hcw:cellsOf S4 1 w.size (.string w)=some (w.data.toList.map byteC):=by
  simp only[cellsOf,hws,List.take_length,Nat.le_refl,and_self,if_true]
  rfl
 obtain⟨i9,t9,S9,f9,h9,ht9,s9,n9,s9'⟩:=cat_at (r:=K.n+3) (.inl hu2) s4 ht4 (m:=f) (by simp;omega) (by omega) (by omega) (x := .string w) (q:=w.size) rfl hcw (by rw[List.length_map,hws]) (by omega)
 have gid9:S9.get id = .row true tl 1 (out.map byteC):=by rw[s9' _ (by omega) (by omega),s4' _ (by omega) (by omega)];exact gid0
 obtain⟨i12,o12,S12,f12,h12,n12,s12',c12⟩:=cut_suf (r:=K.n+4) gid9 htl (by omega) (by omega) (len:=out.length) (by simp) hto
 have s12:S12.get i9 = .row true t9 1 _:=(s12' i9 (by omega)).trans s9
 obtain⟨i13,t13,S13,f13,h13,ht13,s13,n13,s13'⟩:=cat_at (r:=K.n+5) (.inr ⟨_,hu1⟩) s12 ht9 (m:=f+w.size) (by rw[List.length_append,List.length_map,List.length_map,List.length_take,hws];omega) (by omega) (by omega) (x := .slice (some ⟨i12,o12,none⟩) (out.length - t) (out.length - t)) (q:=out.length - t) rfl c12 (by simp) (by omega)
 have fI:=iso_eq (ek Heap.empty) rfl rfl
 have hwk2:WW[k]'(by omega) = .string w:=(List.getElem?_eq_some_iff.1 hwk).2
 simp[-apartP,-clashP,f0,f3,f4,fI,f9,f12,f13,gw4,hwk2,hwl,show (k:Int)<24 by omega,show k<24 by omega]
 rw[if_pos ?_]
 · have hlen:(out.take f++w.data.toList++out.drop t).length=f+w.size+(out.length - t):=by
    rw[List.length_append,List.length_append,List.length_take,List.length_drop,hws];omega
   have hrow:S13.get i13 = .row true t13 1 ((out.take f++w.data.toList++out.drop t).map byteC):=by
    rw[s13,List.map_append,List.map_append,List.map_drop]
   have k1n:=k1.n
   simp
   refine⟨some ⟨i13,0,none⟩,out.take f++w.data.toList++out.drop t,⟨rfl,hlen.symm⟩,⟨by omega,fun j hj _ => ?_⟩,.inr ⟨i13,t13,rfl,ht13,by omega,hrow⟩,by rw[hlen];omega⟩
   have hjK:j<K.n:=by omega
   rw[s13' j (by omega) (by omega),s12' j (by omega),s9' j (by omega) (by omega),s4' j (by omega) (by omega),s0' j (by omega),hK,Heap.get_push,if_neg (by omega)]
   exact k1.get j hj (fun h=>h)
 · rcases h4 with rfl | rfl<;>rcases h9 with rfl | rfl<;>rcases h12 with rfl | rfl<;>simp (config:={ decide:=true })<;>omega
end
end Go.Vm.Make
namespace Go.Vm.Typing
open Go Go.Proofs Go.Vm.Parse Go.Vm.Scope Go.Vm.Make
attribute [local simp] repCells_succ writeAt rd_Fr toList_beq gpe gpn spe gse gsn
theorem flat_ints {k:Nat}{x:Value}{o:AObj}(fa:FlatArg (isInt .i64) 1 k x o){H:Heap}(hH:H.get k=o):∃ N:List Int,SL H x N:=by
 obtain⟨base,len,cap,cs,rfl,h1,h2,h3,h4,h5⟩:=fa
 have hb:∀ cs:List Value,(∀ c∈cs,isInt .i64 c)→∃ N:List Int,cs=N.map iv:=by
  intro cs
  induction cs with
  | nil=>intro _;exact⟨[],rfl⟩
  | cons c cs ih =>
   intro h
   obtain⟨N,hN⟩:=ih fun c hc=>h c (by simp[hc])
   obtain⟨n,hn,_⟩:=h c (by simp)
   exact⟨n :: N,by simp[hn,← hN]⟩
 rcases h5 with⟨rfl,rfl,rfl,rfl⟩ | ⟨rfl,rfl⟩
 · exact⟨[],none,0,rfl,.inl ⟨rfl,rfl⟩⟩
 · obtain⟨N,rfl⟩:=hb cs h4
   simp at h3
   refine⟨N.take len,some ⟨k,0,none⟩,cap,?_,.inr ⟨k,0,false,0,0,_,rfl,hH,?_,?_⟩⟩
   · simp only[List.length_take];rw[Nat.min_eq_left (by omega)]
   · simp;omega
   · simp only[List.length_take,Nat.min_eq_left (show len≤N.length by omega),List.drop_zero,List.map_take]
end Go.Vm.Typing
namespace Go.Vm.Typing
open Go Go.Proofs Go.Vm.Parse Go.Vm.Scope Go.Vm.Make Go.Vm.Tree
attribute [local simp] repCells_succ writeAt rd_Fr toList_beq gpe gpn spe gse gsn
theorem prcsB_ok (R:RT):∀ (l:List Prc)(i:Nat),FOK (prcsB R i l)
 | [],i => .none
 | p :: l, i => by
  rw[prcsB]
  first
  | exact .or (stsB_ok ..) (prcsB_ok R l _)
  | exact .or (prcsB_ok R l _) (stsB_ok ..)
theorem checkB_ok (R:RT)(s:Src):FOK (checkB R s) := .or (prcsB_ok ..) (.or (itemsB_ok ..) (stsB_ok ..))
theorem fc_none {f:Option Flt}(h:FOK f)(h0:fc f=0):f=none:=by
 cases f with
 | none=>rfl
 | some q=>exact absurd h0 (h.ne q rfl)
theorem szPs_in:∀ {l:List Prc}{p:Prc},p∈l→szSs p.body≤szPs l
 | q :: l, p, h => by
  simp only[szPs,szP]
  rcases List.mem_cons.1 h with rfl | h
  · omega
  · have:=szPs_in h;omega
theorem szPs_ln:∀ l:List Prc,l.length≤szPs l
 | []=>Nat.zero_le _
 | q :: l=>by have:=szPs_ln l;simp only[szPs,szP,List.length_cons];omega
theorem loc0 (R:RT)(x:ByteArray):isLoc R 0 x=false:=rfl
theorem q_sh0:quiet Tryz.prog (drawN Tryz.f3 0)=true:=by decide +kernel
theorem q_sh1:quiet Tryz.prog (drawN Tryz.f3 1)=true:=by decide +kernel
theorem c_shared27 (args:List Value)(H:Heap):(run Tryz.prog noHooks).call 3 args H=callB Tryz.prog noHooks Tryz.f3 args H:=call_B Tryz.func3 rfl (by decide +kernel) rfl args H
theorem front_any {H:Heap}(l:List UInt8):∃ res,Gives ((run Tryz.prog noHooks).call 5 [.string ⟨⟨l⟩⟩] H) (FrontQ H res):=by
 by_cases hb:l.length≤4096
 · obtain⟨n,res,hx⟩:=parse_ans l
   exact⟨res,front_run plain0 (b:=⟨⟨l⟩⟩) hb hx⟩
 · exact⟨_,front_long plain0 (b:=⟨⟨l⟩⟩) (show 4096<l.length by omega)⟩
theorem shared27_walk (x:Value)(o:AObj)(fa:FlatArg (isInt .i64) 1 0 x o)(a:Int)(wa:Lit.wf (.int .i64 a)=true)(b:Int)(wb:Lit.wf (.int .i64 b)=true) :
  Gives ((run Tryz.prog noHooks).call 3 [x,.int .i64 a,.int .i64 b] (Heap.empty.push o)) fun o _=>o = .val (.bool true):=by
 obtain⟨H,hH⟩:∃ H,H=Heap.empty.push o:=⟨_,rfl⟩
 rw[← hH]
 obtain⟨N,hN⟩:=flat_ints fa (H:=H) (by rw[hH];exact Heap.get_push_self _ _)
 clear hH
 obtain⟨b0,c0,rfl⟩:∃ b c,x = .slice b N.length c:=by obtain⟨b,c,rfl,_⟩:=hN;exact⟨b,c,rfl⟩
 rw[c_shared27,callB,bodyOf]
 by_cases h1:300<N.length
 · obtain⟨H2,e2⟩:=awake27 H
   simp[Tryz.f3,show (300:Int)<N.length by omega,e2]
 obtain⟨oS,H1,e1,b1,out,rfl,k1,g1,l1⟩:=swapped_ok plain0 hN (by omega) wa wb
 have hcv:exConvert Tryz.prog 34 9 (.slice b1 out.length out.length) H1=some (.string ⟨⟨out⟩⟩,H1):=by
  rcases g1 with⟨h,rfl⟩ | ⟨id,tl,h,h2,h3,h4⟩
  · simp only[Value.slice.injEq]at h
    obtain⟨rfl,-⟩:=h
    exact conv_nil _
  · simp only[Value.slice.injEq]at h
    obtain⟨rfl,-⟩:=h
    exact conv_str ⟨true,tl,1,_,h4,by simp,Nat.le_refl _,by rw[List.drop_zero];exact List.take_of_length_le (by simp)⟩ _ rfl
 obtain⟨res,o2,H2,e2,k2,y,a1,a2,a3,b2,b3,b4,c1,c2,c3,d1,d2,d3,t,w,f,rfl,hf⟩:=front_any (H:=H1) out
 simp only[sr5]at e2
 cases f with
 | false =>
  obtain⟨H3,e3⟩:=awake27 (H2.push (.row true 0 1 [.string y,.slice a1 a2 a3,.slice b2 b3 b4,.slice c1 c2 c3,.slice d1 d2 d3]))
  simp[Tryz.f3,show ¬(300:Int)<N.length by omega,e1,hcv,e2,e3]
 | true =>
 cases res with
 | inr q=>cases hf
 | inl S =>
 simp only[]at hf
 cases hr:rbuildB S with
 | error q=>rw[hr]at hf;cases hf
 | ok R =>
 rw[hr]at hf
 obtain⟨_,tid,rtid,n,col,col',T,nid,pid,rid,v1,v2,v3,v4,v5,w1,w2,w3,w4,w5,w6,rfl,rfl,hT,hR,ha,hok,rok,hgd,hS,sok,hn⟩:=hf
 obtain⟨u1,u2,u3,u4,es,GD,GP,-,GB⟩:=sr_parts hS
 simp only[sr5,List.cons.injEq,true_and,and_true,Value.slice.injEq,Value.string.injEq]at es
 obtain⟨rfl,⟨rfl,rfl,rfl⟩,⟨rfl,rfl,rfl⟩,⟨rfl,rfl,rfl⟩,⟨rfl,rfl,rfl⟩⟩:=es
 obtain⟨row,hrow⟩:∃ row,row=AObj.row true 0 1 [.string S.name,.slice a1 S.decls.length S.decls.length,.slice b2 S.procs.length S.procs.length,.slice c1 S.claims.length S.claims.length,.slice d1 S.body.length S.body.length]:=⟨_,rfl⟩
 have kp:Same (fun _=>False) H2 (H2.push row):=Same.push _ _ _
 have gs:(H2.push row).get H2.n=row:=Heap.get_push_self H2 _
 obtain⟨K,e4,k4⟩:=tcheck_run plain0 ha hok hgd (hT.keep kp fun _ h=>h.elim) (hS.move kp fun j hj _=>⟨hj,fun h=>h⟩) sok hn
 simp only[sr5]at e4
 have gK:=k4.at gs (by rw[hrow];simp) (fun h=>h)
 have kK:=kp.trans k4
 rw[hrow]at e4 gs gK
 by_cases hc:fc (checkB R S)=0
 · have hcn:=fc_none (checkB_ok R S) hc
   have zb:szSs S.body≤100000:=by have:=sok.size;omega
   have zp:∀ p∈S.procs,szSs p.body≤100000:=fun p hp=>by have:=sok.size;have:=szPs_in hp;omega
   have ld:S.decls.length≤100000:=by have:=sok.size;omega
   have lp:S.procs.length≤100000:=by have:=sok.size;have:=szPs_ln S.procs;omega
   simp[Tryz.f3,show ¬(300:Int)<N.length by omega,e1,hcv,e2,gs,e4,hc]
   refine loop_wp (fun m t K'=>∃ i:Nat,i+m=S.decls.length∧rd t 11 = .int .i64 i∧Same (fun _=>False) K K') S.decls.length ?_ ?_
   · exact⟨0,by omega,by simp,Same.refl _ _⟩
   rintro m t K' hk ⟨i,hm,g11,kS⟩
   have ht:t.length=101:=hk.1.trans (by simp[len_Bs])
   have hh:=hk.all [7,8] (by decide +kernel)
   simp at hh
   obtain⟨g7,g8⟩:=hh
   clear hk
   have gr:=kS.at gK (by simp) fun h=>h
   rcases Nat.lt_or_ge i S.decls.length with hi | hi
   · have GD':=(GD.keep kK).keep kS
     obtain⟨id1,tl1,cs1,rfl,-,-,p1,l1,r1⟩:=GD'.at hi
     have hmem:=List.getElem_mem hi
     generalize S.decls[i]=X at *
     have hk0:repDcl.k=4:=rfl
     rw[hk0]at p1 l1 r1
     have ec:(cs1.drop (i * 4)).take 4=[.int .i64 X.kind,.int .i64 X.at_,.string X.name,.int .i64 X.n]:=r1
     have A0:=cell0 ec rfl
     obtain⟨hl0,B0⟩:=List.getElem?_eq_some_iff.1 A0
     have A2:=cell_at ec (j:=2) rfl
     have hw:=wrap64 ((i:Int)+1) (by omega) (by omega)
     by_cases hkd:X.kind=3
     · have shd:=check_shd sok hr hcn hmem hkd
       obtain⟨o,K5,e5,rfl,k5⟩:=tch_run plain0 X.name _ S.body (Nat.lt_succ_self _) zb false K' _ ((GB.keep kK).keep kS)
       rw[shd.1 (loc0 _ _)]at e5
       have gr5:=k5.at gr (by simp) fun h=>h
       have p15:=k5.at p1 (by simp) fun h=>h
       simp[ht,g7,g8,g11,gr,hi,p1,l1,A0,B0,hkd]
       refine region_quiet (by exact q_sh0) ?_
       simp[ht,g7,g8,g11,gr,hi,p1,l1,A0,B0,A2,e5]
       refine loop_wp (fun m t K6=>∃ k:Nat,k+m=S.procs.length∧rd t 12 = .int .i64 k∧Same (fun _=>False) K5 K6) S.procs.length ?_ ?_
       · exact⟨0,by omega,by simp[ht],Same.refl _ _⟩
       · rintro m2 t2 K6 hk2 ⟨k,hm2,n12,kD⟩
         have ht2:t2.length=101:=hk2.1.trans (by simp[ht])
         have hh2:=hk2.all [7,8,11] (by decide +kernel)
         simp[ht,g7,g8,g11]at hh2
         obtain⟨n7,n8,n11⟩:=hh2
         clear hk2
         have gr6:=kD.at gr5 (by simp) fun h=>h
         have p16:=kD.at p15 (by simp) fun h=>h
         rcases Nat.lt_or_ge k S.procs.length with hj | hj
         · have kH6:=((kK.trans kS).trans k5).trans kD
           obtain⟨K7,e7,k7⟩:=local_run plain0 (hT.keep kH6 fun _ h=>h.elim) ((k:Int)+1) X.name (by have:=hok.l;have:=hok.q;omega)
           rw[(ha.local_ _ X.name).2,show (idxF X.name 0 (rlocalsAt R ((k:Int)+1))).isSome=isLoc R ((k:Int)+1) X.name from rfl]at e7
           have gr7:=k7.at gr6 (by simp) fun h=>h
           have p17:=k7.at p16 (by simp) fun h=>h
           have hwk:=wrap64 ((k:Int)+1) (by omega) (by omega)
           have GP':=(GP.keep kH6).keep k7
           obtain⟨id2,tl2,cs2,rfl,-,-,p2,l2,r2⟩:=GP'.at hj
           have hmp:=List.getElem_mem hj
           have hk1:repPrc.k=5:=rfl
           rw[hk1]at p2 l2 r2
           obtain⟨x1,x2,x3,ef,-,-,G7⟩:=pr_parts r2
           simp only[pc5]at ef
           have C4:=cell_at ef (j:=4) rfl
           obtain⟨o,K8,e8,rfl,k8⟩:=tch_run plain0 X.name _ S.procs[k].body (Nat.lt_succ_self _) (zp _ hmp) false K7 _ G7
           simp[ht2,n7,n8,n11,n12,gr6,hj,p16,l1,hi,A2,hwk,e7]
           refine region_quiet (by exact q_sh1) ?_
           have gr8:=k8.at gr7 (by simp) fun h=>h
           cases hL:isLoc R ((k:Int)+1) X.name with
           | true =>
            simp[ht2,n7,n8,n11,n12,gr6,hj,p16,l1,hi,A2,hwk,e7,hL,gr7,p17,p2,l2,C4,show k * 5+5≤S.procs.length * 5 by omega]
            exact⟨m2 - 1,by omega,k+1,by omega,by simp[ht2],kD.trans k7⟩
           | false =>
            rw[shd.2 k hj hL]at e8
            simp[ht2,n7,n8,n11,n12,gr6,hj,p16,l1,hi,A2,hwk,e7,hL,gr7,p17,p2,l2,C4,e8,show k * 5+5≤S.procs.length * 5 by omega]
            exact⟨m2 - 1,by omega,k+1,by omega,by simp[ht2],(kD.trans k7).trans k8⟩
         · have e:k=S.procs.length:=by omega
           simp[ht2,n7,n8,n11,n12,gr6,show ¬k<S.procs.length by omega,hw]
           exact⟨m - 1,by omega,i+1,by omega,by simp[ht2],(kS.trans k5).trans kD⟩
     · simp[ht,g7,g8,g11,gr,hi,p1,l1,A0,B0,hkd,hw]
       exact⟨m - 1,by omega,i+1,by omega,by simp[ht],kS⟩
   · have e:i=S.decls.length:=by omega
     obtain⟨H3,e3⟩:=awake27 K'
     simp[ht,g7,g8,g11,gr,show ¬i<S.decls.length by omega,e3]
 · obtain⟨H3,e3⟩:=awake27 K
   simp[Tryz.f3,show ¬(300:Int)<N.length by omega,e1,hcv,e2,gs,e4,hc,e3]
end Go.Vm.Typing
