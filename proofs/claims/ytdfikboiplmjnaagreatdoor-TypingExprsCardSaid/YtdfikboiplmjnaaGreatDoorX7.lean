/- What is proved: a source that is too long is refused; 'alike' of any bytes. What is proved: the reference's 'Expr' and 'Type'. What is proved: 'Within' and 'Put'. What is proved: the maker of sources goes on, whatever its numbers are: its small steps. What is proved: the maker of sources goes on: expressions, truths, items. What is proved: the maker of sources goes on: truths, conditions, items, the procedure that is called. What is proved: the maker of sources goes on: processes that begin side by side. What is proved: the maker of sources goes on: statements in rows, and regions. What is proved: the maker of sources goes on: one statement. What is proved: the maker of sources makes a text, whatever its numbers are. What is proved: 'TypingExprs' hands back true, whatever the input. -/
import Derived.Test.YtdfikboiplmjnaaGreatDoorX6
set_option maxRecDepth 100000
set_option maxHeartbeats 4000000
set_option linter.unusedSimpArgs false
set_option linter.unusedVariables false
set_option linter.unusedSectionVars false
namespace Go.Vm.Typing
open Go Go.Proofs Go.Vm.Parse Go.Vm.Scope
attribute [local simp] repCells_succ writeAt rd_Fr toList_beq gpe gpn spe gse gsn ne_r0 ne_l0 le_s0 ne_r1 ne_l1 lt_s1 le_s1 ne_r2 ne_l2 lt_s2 le_s2 ne_r3 ne_l3 lt_s3 le_s3 ne_r4 ne_l4 lt_s4 le_s4 ne_r5 ne_l5 lt_s5 le_s5 ne_r6 ne_l6 lt_s6 le_s6 ne_r7 ne_l7 lt_s7 le_s7
section
variable {E:Hooks} (hE:Plain E)
include hE
theorem all_long {H:Heap} {b:Option Addr} {n cap:Nat} (hn:4096 < n):∃ H',(run Tryz.prog E).call 13 [.slice b n cap] H=some (.val (.tuple #[.slice none 0 0,.agg ⟨[.int .i64 16,.int .i64 4096]⟩]),H')∧Same (fun _=>False) H H':=by
 suffices key:Gives ((run Tryz.prog E).call 13 [.slice b n cap] H) fun o H'=>o = .val (.tuple #[.slice none 0 0,.agg ⟨[.int .i64 16,.int .i64 4096]⟩])∧Same (fun _=>False) H H' by
  obtain ⟨o,H',e,rfl,k⟩:=key
  exact ⟨H',e,k⟩
 rw [c_All hE,callB,bodyOf]
 simp [Tryz.f13,show (4096:Int) < n by omega]
 exact Same.push _ _ _
theorem parse_long {H:Heap} {b:Option Addr} {n cap:Nat} (hn:4096 < n):∃ H',(run Tryz.prog E).call 23 [.slice b n cap] H=some (.val (.tuple #[.agg ⟨sr5 ByteArray.empty nl nl nl nl⟩,.agg ⟨[.int .i64 16,.int .i64 4096]⟩]),H')∧Same (fun _=>False) H H':=by
 suffices key:Gives ((run Tryz.prog E).call 23 [.slice b n cap] H) fun o H'=>o = .val (.tuple #[.agg ⟨sr5 ByteArray.empty nl nl nl nl⟩,.agg ⟨[.int .i64 16,.int .i64 4096]⟩])∧Same (fun _=>False) H H' by
  obtain ⟨o,H',e,rfl,k⟩:=key
  exact ⟨H',e,k⟩
 obtain ⟨HA,eA,kA⟩:=all_long hE (H:=((H.push (.row true 0 1 (sr5 ByteArray.empty nl nl nl nl))).push (.row true 0 1 [.int .i64 0,.int .i64 0]))) (b:=b) (cap:=cap) hn
 have nA:=kA.n
 simp at nA
 have gA0:HA.get H.n = .row true 0 1 (sr5 ByteArray.empty nl nl nl nl):=kA.at (by rw [Heap.get_push,if_neg (by simp),Heap.get_push_self]) (by simp) (fun h=>h)
 have gA1:HA.get (H.n + 1) = .row true 0 1 [.int .i64 0,.int .i64 0]:=kA.at (Heap.get_push_self _ _) (by simp) (fun h=>h)
 have kH:Same (fun _=>False) H HA:=((Same.push _ _ _).then_push _).trans kA
 have tA0:H.n < HA.n:=by omega
 have tA1:H.n + 1 < HA.n:=by omega
 rw [c_Parse hE,callB,bodyOf]
 simp only [sr5,nl] at gA0 eA
 simp [Tryz.f23,eA]
 refine region_plan (by exact pl_parse0) ?_
 simp [gA0,gA1,tA0,tA1]
 refine ⟨?_,(kH.then_push _).then_set (by simp;omega) (.inr (by omega)) _ |>.then_set (by simp;omega) (.inr (by omega)) _⟩
 simp [sr5,nl]
theorem front_long {H:Heap} {b:ByteArray} (hb:4096 < b.size):Gives ((run Tryz.prog E).call 9 [.string b] H) (FrontQ H (.inr (16,4096))):=by
 rw [c_front hE,callB,bodyOf]
 have cv:=conv_text2 b (H.push (.row true 0 1 [.string ByteArray.empty,.slice none 0 0,.slice none 0 0,.slice none 0 0,.slice none 0 0]))
 have kH:Same (fun _=>False) H ((H.push (.row true 0 1 [.string ByteArray.empty,.slice none 0 0,.slice none 0 0,.slice none 0 0,.slice none 0 0])).push (.row true 1 1 (bytesOf b))):=(Same.push _ _ _).then_push _
 obtain ⟨HP,eP,kP⟩:=parse_long hE (H:=(H.push (.row true 0 1 [.string ByteArray.empty,.slice none 0 0,.slice none 0 0,.slice none 0 0,.slice none 0 0])).push (.row true 1 1 (bytesOf b))) (b:=some ⟨H.n + 1,0,none⟩) (cap:=b.size) hb
 have n0:∀ o,(H.push o).n=H.n + 1:=fun _=>rfl
 simp only [n0] at cv
 have g0:((H.push (.row true 0 1 [.string ByteArray.empty,.slice none 0 0,.slice none 0 0,.slice none 0 0,.slice none 0 0])).push (.row true 1 1 (bytesOf b))).get H.n = .row true 0 1 [.string ByteArray.empty,.slice none 0 0,.slice none 0 0,.slice none 0 0,.slice none 0 0]:=by
  rw [Heap.get_push_lt _ _ (Nat.lt_succ_self _),Heap.get_push_self]
 have g1:=kP.at g0 (by simp) (fun h=>h)
 simp only [sr5,nl] at eP
 obtain ⟨kK,gK,nK⟩:=stK_facts HP [.string ByteArray.empty,.slice none 0 0,.slice none 0 0,.slice none 0 0,.slice none 0 0] [.string ByteArray.empty,.slice none 0 0,.slice none 0 0,.slice none 0 0,.slice none 0 0] 16 4096
 have g2:=kK.at g1 (by simp) (fun h=>h)
 simp [Tryz.f9,cv,eP]
 generalize (((HP.push (.row true 0 1 [.string ByteArray.empty,.slice none 0 0,.slice none 0 0,.slice none 0 0,.slice none 0 0])).push (.row true 0 1 [.int .i64 0,.int .i64 0])).set HP.n (.row true 0 1 [.string ByteArray.empty,.slice none 0 0,.slice none 0 0,.slice none 0 0,.slice none 0 0])).set (HP.n + 1) (.row true 0 1 [.int .i64 16,.int .i64 4096])=K at *
 have g3:∀ o,(K.set H.n o).get H.n=o:=fun o=>Heap.get_set_self _ _ (Heap.lt_of_get g2 (by simp))
 simp [g2,g3]
 refine ⟨((kH.trans kP).trans kK).then_set (Heap.lt_of_get g2 (by simp)) (.inr (Nat.le_refl _)) _,_,_,_,_,_,_,_,_,_,_,_,_,_,_,_,_,rfl,rfl⟩
end
def FxR (H:Heap) (e:Ex) (s:PS) (o:Out) (H':Heap):Prop :=
 Same (fun _=>False) H H'∧if s.c=0 then ∃ cs,o = .val (.tuple #[.agg ⟨cs⟩,.int .i64 s.p,.agg ⟨[.int .i64 0,.int .i64 0]⟩])∧RE H' (fun i=>H.n ≤ i) e cs
  else o = .val (.tuple #[.agg ⟨z6⟩,.int .i64 0,.agg ⟨[.int .i64 s.c,.int .i64 s.a]⟩])
theorem pl_rex0:planOf Tryz.prog (drawN Tryz.f14 0)=some [none,(some (0,1)),(some (0,1)),(some (0,1)),(some (0,1)),none,none,none]:=by decide +kernel
theorem pl_rex1:planOf Tryz.prog (drawN Tryz.f14 1)=some [none,(some (0,1)),(some (0,1)),(some (0,1)),(some (0,1)),(some (0,1)),none,none,none]:=by decide +kernel
theorem q_rtype:quiet Tryz.prog (drawN Tryz.f16 0)=true:=by decide +kernel
section
variable {E:Hooks} (hE:Plain E)
include hE
theorem c_RExpr (args:List Value) (H:Heap):(run Tryz.prog E).call 14 args H=callB Tryz.prog E Tryz.f14 args H:=call_B Tryz.func14 rfl (by decide +kernel) (hE.no _ rfl rfl) args H
theorem rexpr_walk {H:Heap} {lid tl:Nat} {L:List Tk} {p:Nat} {lv:Int} {n:Nat} {e:Ex} {s:PS} (hL:H.get lid = .row true tl 4 (flatT L)) (hsm:L.length ≤ 100000) (hp:p ≤ L.length) (h0:0 ≤ lv) (h24:lv ≤ 24)
  (hx:xP L n (.row 1 lv) ⟨p,0,0⟩=some (e,s)) :
  Gives ((run Tryz.prog E).call 14 [.slice (some ⟨lid,0,none⟩) L.length L.length,.int .i64 p,.int .i64 lv] H) fun o H'=>FxR H e s o H':=by
 have hl:=Heap.lt_of_get hL (by simp)
 obtain ⟨K,hK⟩:∃ K,K=((H.push (.row true 0 1 z6)).push (.row true 0 1 [.int .i64 0,.int .i64 0])).push (.row true 0 1 [.slice (some ⟨lid,0,none⟩) L.length L.length,.int .i64 p,.int .i64 0,.int .i64 0]):=⟨_,rfl⟩
 have nK:K.n=H.n + 1 + 1 + 1:=by rw [hK];rfl
 have kK:Same (fun _=>False) H K:=by rw [hK];exact ((Same.push _ _ _).then_push _).then_push _
 have hR:RD K (H.n + 1 + 1) lid L ⟨p,0,0⟩:=⟨by rw [hK];exact Heap.get_push_self _ _,⟨tl,kK.at hL (by simp) (fun h=>h)⟩,hsm,hp⟩
 obtain ⟨o,K2,e2,cs,rfl,k2,h2,r2⟩:=(x_all hE (r:=H.n + 1 + 1) (lid:=lid) (L:=L) n).1 1 lv ⟨p,0,0⟩ e s hx (by omega) (by omega) h0 h24 K hR
 obtain ⟨a,b,c,d,y,b1',m1,rfl⟩:=Typing.RE.six r2
 have n2:=k2.n
 have g0:K2.get H.n = .row true 0 1 z6:=k2.at (by rw [hK,Heap.get_push,if_neg (by simp),Heap.get_push,if_neg (by simp),Heap.get_push_self]) (by simp) (by omega)
 have g1:K2.get (H.n + 1) = .row true 0 1 [.int .i64 0,.int .i64 0]:=k2.at (by rw [hK,Heap.get_push,if_neg (by simp)];exact Heap.get_push_self _ _) (by simp) (by omega)
 have h3:=h2.same (Same.push (fun _=>False) K2 (.row true 0 1 [.int .i64 a,.int .i64 b,.int .i64 c,.int .i64 d,.string y,.slice b1' m1 m1]))
 have hbad:=bad_run hE h3
 have hobj:=h3.obj
 have hobj2:=h2.obj
 have hpl:=h2.place
 have k3:Same (fun i=>i=H.n + 1 + 1) K (K2.push (.row true 0 1 [.int .i64 a,.int .i64 b,.int .i64 c,.int .i64 d,.string y,.slice b1' m1 m1])):=k2.then_push _
 have kEnd:∀ o1 o2,Same (fun _=>False) H (((K2.push (.row true 0 1 [.int .i64 a,.int .i64 b,.int .i64 c,.int .i64 d,.string y,.slice b1' m1 m1])).set H.n o1).set (H.n + 1) o2):=fun o1 o2 =>
  ((kK.then k3 (fun i hi => .inr (by omega))).then_set (by simp;omega) (.inr (by omega)) o1).then_set (by simp;omega) (.inr (by omega)) o2
 rw [c_RExpr hE,callB,bodyOf]
 unfold FxR
 by_cases hc:s.c=0
 · have kM:Same (fun i=>i=H.n∨i=H.n + 1) K2 (((K2.push (.row true 0 1 [.int .i64 a,.int .i64 b,.int .i64 c,.int .i64 d,.string y,.slice b1' m1 m1])).set H.n (.row true 0 1 [.int .i64 a,.int .i64 b,.int .i64 c,.int .i64 d,.string y,.slice b1' m1 m1])).set (H.n + 1) (.row true 0 1 [.int .i64 0,.int .i64 0])) :=
    ((Same.none (Same.push _ _ _)).then_set (by simp;omega) (.inl (.inl rfl)) _).then_set (by simp;omega) (.inl (.inr rfl)) _
   have fin:=RE.move (S':=fun i=>H.n ≤ i) kM (fun i hi _=>⟨by have:=hi;omega,fun h=>by have:=hi;omega⟩) _ _ r2
   simp only [hc,if_true]
   simp only [z6,hc] at *
   simp [Tryz.f14]
   rw [← hK]
   simp [e2,hbad,g0,g1,show H.n < K2.n by omega]
   refine region_plan (by exact pl_rex1) ?_
   simp [hobj,hobj2,g0,g1,show H.n < K2.n by omega,show H.n + 1 < K2.n by omega,show H.n + 1 + 1 < K2.n by omega,show ¬ H.n=K2.n by omega,show ¬ H.n + 1=K2.n by omega,show ¬ H.n + 1 + 1=K2.n by omega]
   exact ⟨kEnd _ _,fin⟩
 · simp only [hc,if_false]
   simp only [z6] at *
   simp [Tryz.f14]
   rw [← hK]
   simp [e2,hbad,hc,g0,g1,show H.n < K2.n by omega]
   refine region_plan (by exact pl_rex0) ?_
   simp [hobj,hobj2,g0,g1,show H.n < K2.n by omega,show H.n + 1 < K2.n by omega,show H.n + 1 + 1 < K2.n by omega,show ¬ H.n=K2.n by omega,show ¬ H.n + 1=K2.n by omega,show ¬ H.n + 1 + 1=K2.n by omega]
   exact kEnd _ _
theorem c_rtype (args:List Value) (H:Heap):(run Tryz.prog E).call 16 args H=callB Tryz.prog E Tryz.f16 args H:=call_B Tryz.func16 rfl (by decide +kernel) (hE.no _ rfl rfl) args H
theorem rtype_run {H:Heap} {rtid:Nat} {R:RT} {col:Nat→Nat} {v1 v2 v3 v4 v5 v6:Value} (hR:RRef H col rtid v1 v2 v3 v4 v5 v6 R) (hok:ROK R) {S:Nat→Prop} {x:Ex} {xs:List Value} (hx:RE H S x xs) (wf:WFx x) {p:Int} :
  ∃ H',(run Tryz.prog E).call 16 [.pointer (some ⟨rtid,0,none⟩),.int .i64 p,.agg ⟨xs⟩] H=some (.val (.tuple #[.int .i64 (kindP (exB R ⟨p,[],ByteArray.empty⟩ x) (tyP x)),.agg ⟨[.int .i64 (fc (exB R ⟨p,[],ByteArray.empty⟩ x)),.int .i64 (fa (exB R ⟨p,[],ByteArray.empty⟩ x))]⟩]),H')∧Same (fun _=>False) H H':=by
 suffices key:Gives ((run Tryz.prog E).call 16 [.pointer (some ⟨rtid,0,none⟩),.int .i64 p,.agg ⟨xs⟩] H) fun o H'=>o = .val (.tuple #[.int .i64 (kindP (exB R ⟨p,[],ByteArray.empty⟩ x) (tyP x)),.agg ⟨[.int .i64 (fc (exB R ⟨p,[],ByteArray.empty⟩ x)),.int .i64 (fa (exB R ⟨p,[],ByteArray.empty⟩ x))]⟩])∧Same (fun _=>False) H H' by
  obtain ⟨o,H',e,rfl,k⟩:=key
  exact ⟨H',e,k⟩
 obtain ⟨q1,q2,q3,q4,z,b,m,rfl⟩:=Typing.RE.six hx
 obtain ⟨Hb,hHb⟩:∃ Hb,Hb=((H.push (.row true 0 1 [.int .i64 q1,.int .i64 q2,.int .i64 q3,.int .i64 q4,.string z,.slice b m m])).push (.row true 0 1 [.int .i64 0,.int .i64 0])).push (.row true 0 1 [.pointer (some ⟨rtid,0,none⟩),.int .i64 p,.slice none 0 0,.string ByteArray.empty,.int .i64 0,.int .i64 0]):=⟨_,rfl⟩
 have kb:Same (fun _=>False) H Hb:=by rw [hHb];exact ((Same.push _ _ _).then_push _).then_push _
 have nb:Hb.n=H.n + 3:=by rw [hHb];rfl
 have gx:Hb.get H.n = .row true 0 1 [.int .i64 q1,.int .i64 q2,.int .i64 q3,.int .i64 q4,.string z,.slice b m m]:=by rw [hHb];simp [Heap.get_push]
 have gf:Hb.get (H.n + 1) = .row true 0 1 [.int .i64 0,.int .i64 0]:=by rw [hHb];simp [Heap.get_push]
 have gc:Hb.get (H.n + 2) = .row true 0 1 (ck6 rtid p (.slice none 0 0) ByteArray.empty (fc none) (fa none)):=by rw [hHb];simp [Heap.get_push,ck6,fc,fa]
 have c0:CR H Hb rtid (H.n + 2) ⟨p,[],ByteArray.empty⟩ (.slice none 0 0) none:=⟨kb.mono fun _ h=>h.elim,by omega,gc,.inl ⟨rfl,rfl⟩,FOK.none,by simp⟩
 obtain ⟨K,e1,r1⟩:=kexpr_run hE ⟨col,v1,v2,v3,v4,v5,v6,hR⟩ hok _ x (Nat.lt_succ_self _) wf c0 hx
 rw [Option.none_or] at r1
 have e2:=kbad_run hE r1.2
 have oK:=r1.2.obj
 simp only [ck6] at oK
 have gfK:=r1.1.at gf (by simp) (by omega)
 have lf:=Heap.lt_of_get gfK (by simp)
 have kK:Same (fun _=>False) H K:=kb.then r1.1 fun i hi => .inr (by omega)
 have gf3:∀ o,(K.set (H.n + 1) o).get (H.n + 1)=o:=fun o=>Heap.get_set_self _ _ lf
 rw [c_rtype hE,callB,bodyOf]
 cases hf:exB R ⟨p,[],ByteArray.empty⟩ x with
 | none =>
  rw [hf] at e2
  simp at e2
  simp [Tryz.f16,← hHb,gx,e1,e2,gfK,gf3,kindP,fc,fa]
  exact kK.then_set lf (.inr (by omega)) _
 | some q =>
  rw [hf] at e2 oK
  simp at e2
  simp [Tryz.f16,← hHb,gx,e1,e2]
  refine region_quiet (by exact q_rtype) ?_
  simp [oK,gfK,gf3,kindP,fc,fa]
  exact kK.then_set lf (.inr (by omega)) _
end
end Go.Vm.Typing
namespace Go.Vm.Typing
open Go Go.Proofs Go.Vm.Parse Go.Vm.Scope
attribute [local simp] repCells_succ writeAt rd_Fr toList_beq gpe gpn spe gse gsn op_index idxA_str
section
variable {E:Hooks} (hE:Plain E)
include hE
theorem c_within27 (args:List Value) (H:Heap):(run Tryz.prog E).call 11 args H=callB Tryz.prog E Tryz.f11 args H:=call_B Tryz.func11 rfl (by decide +kernel) (hE.no _ rfl rfl) args H
theorem within_any27 {x:Int} (hx:Lit.wf (.int .i64 x)=true) (lo hi:Int) (h0:0 ≤ lo) (h1:lo ≤ hi) (h2:hi ≤ 1000000) :
  ∃ k:Nat,lo ≤ k∧(k:Int) ≤ hi∧∀ H,(run Tryz.prog E).call 11 [.int .i64 x,.int .i64 lo,.int .i64 hi] H=some (.val (.int .i64 k),H):=by
 suffices key:∃ k:Nat,lo ≤ k∧(k:Int) ≤ hi∧∀ H,Gives ((run Tryz.prog E).call 11 [.int .i64 x,.int .i64 lo,.int .i64 hi] H) fun o H'=>o = .val (.int .i64 k)∧H'=H by
  obtain ⟨k,h3,h4,h5⟩:=key
  refine ⟨k,h3,h4,fun H => ?_⟩
  obtain ⟨o,H',e,rfl,rfl⟩:=h5 H
  exact e
 have w1:IntKind.i64.wrap (hi - lo)=hi - lo:=wrap64 _ (by omega) (by omega)
 have w2:IntKind.i64.wrap (hi - lo + 1)=hi - lo + 1:=wrap64 _ (by omega) (by omega)
 have hb : -(hi - lo + 1) < x.tmod (hi - lo + 1)∧x.tmod (hi - lo + 1) < hi - lo + 1:=by
  have h1:=Int.tmod_lt_of_pos x (show (0:Int) < hi - lo + 1 by omega)
  have h2:=Int.neg_tmod x (hi - lo + 1)
  have h3:=Int.tmod_lt_of_pos (-x) (show (0:Int) < hi - lo + 1 by omega)
  omega
 have hr:=fun ty a b=>bin_rem (P:=Tryz.prog) ty a b .i64 x (hi - lo + 1) (by omega)
 generalize x.tmod (hi - lo + 1)=y at hb hr
 by_cases hy:y < 0
 · have w3:IntKind.i64.wrap (y + hi)=y + hi:=wrap64 _ (by omega) (by omega)
   have w4:IntKind.i64.wrap (y + hi - lo)=y + hi - lo:=wrap64 _ (by omega) (by omega)
   have w5:IntKind.i64.wrap (y + hi - lo + 1)=y + hi - lo + 1:=wrap64 _ (by omega) (by omega)
   have w6:IntKind.i64.wrap (lo + (y + hi - lo + 1))=lo + (y + hi - lo + 1):=wrap64 _ (by omega) (by omega)
   refine ⟨(lo + (y + hi - lo + 1)).toNat,by omega,by omega,fun H => ?_⟩
   rw [c_within27 hE,callB,bodyOf]
   simp [Tryz.f11,w1,w2,hr,hy,w3,w4,w5,w6]
   omega
 · have w6:IntKind.i64.wrap (lo + y)=lo + y:=wrap64 _ (by omega) (by omega)
   refine ⟨(lo + y).toNat,by omega,by omega,fun H => ?_⟩
   rw [c_within27 hE,callB,bodyOf]
   simp [Tryz.f11,w1,w2,hr,hy,w6]
   omega
end
end Go.Vm.Typing
namespace Go.Vm.Make
open Go Go.Proofs Go.Vm.Parse
attribute [local simp] repCells_succ writeAt rd_Fr toList_beq gpe gpn spe gse gsn ne_r0 ne_l0 le_s0 ne_r1 ne_l1 lt_s1 le_s1 ne_r2 ne_l2 lt_s2 le_s2 ne_r3 ne_l3 lt_s3 le_s3
def OutS (H:Heap) (S:Nat→Prop) (v:Value) (out:List UInt8):Prop :=
 (v = .slice none 0 0∧out=[])∨∃ id tl,v = .slice (some ⟨id,0,none⟩) out.length out.length∧tl ≤ 1∧S id∧H.get id = .row true tl 1 (out.map byteC)
theorem OutS.slice {H:Heap} {S:Nat→Prop} {v:Value} {out:List UInt8} (h:OutS H S v out):∃ b,v = .slice b out.length out.length:=by
 rcases h with ⟨rfl,rfl⟩ | ⟨id,tl,rfl,_⟩
 · exact ⟨none,rfl⟩
 · exact ⟨_,rfl⟩
theorem OutS.move {H H':Heap} {X S S':Nat→Prop} {v:Value} {out:List UInt8} (h:OutS H S v out) (k:Same X H H') (hs:∀ i,S i→i < H.n→S' i∧¬ X i):OutS H' S' v out:=by
 refine h.imp id ?_
 rintro ⟨id,tl,h1,h2,h3,h4⟩
 have:=hs id h3 (Heap.lt_of_get h4 (by simp))
 exact ⟨id,tl,h1,h2,this.1,k.at h4 (by simp) this.2⟩
theorem out_app {H:Heap} {S:Nat→Prop} {v:Value} {out:List UInt8} (h:OutS H S v out) (s:ByteArray) (hl:out.length + s.size ≤ 1000000000) :
  ∃ b' H',exAppend Tryz.prog [24,9] v (.string s) H=some (.slice b' (out.length + s.size) (out.length + s.size),H')∧OutS H' (fun i=>S i∨H.n ≤ i) (.slice b' (out.length + s.size) (out.length + s.size)) (out ++ s.data.toList)∧Same S H H':=by
 obtain ⟨⟨l⟩⟩:=s
 have sz:(⟨⟨l⟩⟩:ByteArray).size=l.length:=rfl
 have e0:(⟨⟨l⟩⟩:ByteArray).data.toList=l:=rfl
 rw [sz] at hl ⊢
 rw [e0]
 have hc:cellsOf H 1 l.length (.string ⟨⟨l⟩⟩)=some (l.map byteC):=by simp [cellsOf,sz,byteC]
 by_cases h0:l=[]
 · subst h0
   simp only [List.length_nil,List.map_nil] at hc
   rcases h with ⟨rfl,rfl⟩ | ⟨id,tl,rfl,h2,h3,h4⟩
   · refine ⟨none,H,?_,.inl ⟨rfl,rfl⟩,Same.refl _ _⟩
     simp [exAppend,exAppendRow,sz,hc]
   · refine ⟨some ⟨id,0,none⟩,H,?_,.inr ⟨id,tl,by simp,h2,.inl h3,by simpa using h4⟩,Same.refl _ _⟩
     simp only [List.length_nil] at hl
     simp [exAppend,exAppendRow,sz,hc,show (out.length + 200) ≤ 140737488355328 by omega,show out.length ≤ 140737488355328 by omega,show out.length ≤ 140737488355128 by omega]
 · have hn:¬ l.length=0:=fun h=>h0 (List.length_eq_zero_iff.1 h)
   rcases h with ⟨rfl,rfl⟩ | ⟨id,tl,rfl,h2,h3,h4⟩
   · simp only [List.length_nil,Nat.zero_add] at hl
     refine ⟨some ⟨H.n,0,none⟩,H.push (.row true 1 1 (l.map byteC)),?_,.inr ⟨H.n,1,by simp,Nat.le_refl _,.inr (Nat.le_refl _),by simp [Heap.get_push]⟩,Same.push _ _ _⟩
     simp [exAppend,exAppendRow,sz,hc,h0,hn,show l.length + 200 ≤ 140737488355328 by omega,show l.length ≤ 140737488355328 by omega,show l.length ≤ 140737488355128 by omega]
   · have hid:=Heap.lt_of_get h4 (by simp)
     have f1:(out.length + l.length + 200) ≤ 140737488355328:=by omega
     have f2:out.length + l.length ≤ 140737488355328:=by omega
     have f3:¬ out.length + l.length ≤ out.length:=by omega
     have f4:out.length + l.length ≤ 140737488355128:=by omega
     have f5:(out.map byteC).take out.length=out.map byteC:=List.take_of_length_le (by simp)
     rcases (show tl=0∨tl=1 by omega) with rfl | rfl
     · refine ⟨some ⟨H.n,0,none⟩,H.push (.row true 1 1 (out.map byteC ++ l.map byteC)),?_,.inr ⟨H.n,1,by simp,Nat.le_refl _,.inr (Nat.le_refl _),by simp [Heap.get_push]⟩,Same.push _ _ _⟩
       simp [exAppend,exAppendRow,sz,hc,h4,h0,hn,f1,f2,f3,f4,f5]
     · refine ⟨some ⟨H.n,0,none⟩,(H.set id .dead).push (.row true 1 1 (out.map byteC ++ l.map byteC)),?_,.inr ⟨H.n,1,by simp,Nat.le_refl _,.inr (Nat.le_refl _),by simp [Heap.get_push]⟩,(Same.set H hid h3 _).then_push _⟩
       simp [exAppend,exAppendRow,sz,hc,h4,h0,hn,f1,f2,f3,f4,f5]
structure MK (H0 H:Heap) (mid:Nat) (nv:Value) (N:List Int) (lo hi:Nat) (p:Int) (inn:ByteArray) (a:Nat) (left:Int) (ov:Value) (out:List UInt8):Prop where
 kp:Same (fun i=>H0.n ≤ i) H0 H
 hm:H0.n ≤ mid
 obj:H.get mid = .row true 0 1 [nv,.int .i64 a,ov,.int .i64 p,.string inn,.int .i64 left]
 ha:a ≤ N.length
 go:OutS H (fun i=>H0.n ≤ i∧i ≠ mid) ov out
 lo:lo ≤ out.length
 hi:out.length ≤ hi
def MKx (H0 H:Heap) (mid:Nat) (nv:Value) (N:List Int) (lo hi:Nat) (p:Int) (inn:ByteArray):Prop:=∃ a left ov out,MK H0 H mid nv N lo hi p inn a left ov out
theorem MK.lt {H0 H:Heap} {mid:Nat} {nv:Value} {N:List Int} {lo hi:Nat} {p:Int} {inn:ByteArray} {a:Nat} {left:Int} {ov:Value} {out:List UInt8} (h:MK H0 H mid nv N lo hi p inn a left ov out):mid < H.n:=Heap.lt_of_get h.obj (by simp)
theorem MKx.more {H0 H:Heap} {mid:Nat} {nv:Value} {N:List Int} {lo hi:Nat} {p:Int} {inn:ByteArray} (h:MKx H0 H mid nv N lo hi p inn) {hi':Nat} (hh:hi ≤ hi'):MKx H0 H mid nv N lo hi' p inn:=by
 obtain ⟨a,left,ov,out,h⟩:=h
 exact ⟨a,left,ov,out,h.kp,h.hm,h.obj,h.ha,h.go,h.lo,Nat.le_trans h.hi hh⟩
theorem MK.turn {H0 H:Heap} {mid:Nat} {nv:Value} {N:List Int} {lo hi:Nat} {p:Int} {inn:ByteArray} {a:Nat} {left:Int} {ov:Value} {out:List UInt8} (h:MK H0 H mid nv N lo hi p inn a left ov out) {a':Nat} (ha:a' ≤ N.length) (p':Int) (inn':ByteArray) (left':Int) :
  MK H0 (H.set mid (.row true 0 1 [nv,.int .i64 a',ov,.int .i64 p',.string inn',.int .i64 left'])) mid nv N lo hi p' inn' a' left' ov out :=
 ⟨h.kp.then_set h.lt (.inl h.hm) _,h.hm,Heap.get_set_self _ _ h.lt,ha,h.go.move (X:=fun i=>i=mid) (Same.then_set (X:=fun i=>i=mid) (Same.refl _ _) h.lt (.inl rfl) _) fun i hi _=>⟨hi,hi.2⟩,h.lo,h.hi⟩
theorem q_next0:quiet Tryz.prog (drawN Tryz.f28 0)=true:=by decide +kernel
theorem q_next1:quiet Tryz.prog (drawN Tryz.f28 1)=true:=by decide +kernel
theorem SL.at {H:Heap} {nv:Value} {N:List Int} (h:SL H nv N) {a:Nat} (ha:a < N.length):∃ r off own tl es cs cap,nv = .slice (some ⟨r,off,none⟩) N.length cap∧H.get r = .row own tl es cs∧∃ h:off + a < cs.length,cs[off + a]'h = .int .i64 N[a]:=by
 obtain ⟨base,cap,rfl,⟨rfl,rfl⟩ | ⟨r,off,own,tl,es,cs,rfl,h2,h3,h4⟩⟩:=h
 · cases ha
 · refine ⟨r,off,own,tl,es,cs,cap,rfl,h2,by omega,?_⟩
   have e:((cs.drop off).take N.length)[a]? = some (.int .i64 N[a]):=by rw [h4];simp [ha]
   rw [List.getElem?_take_of_lt ha,List.getElem?_drop] at e
   exact (List.getElem?_eq_some_iff.1 e).2
theorem SL.keep {H0 H:Heap} {nv:Value} {N:List Int} (h:SL H0 nv N) (k:Same (fun i=>H0.n ≤ i) H0 H):SL H nv N :=
 h.same fun i o e d=>k.at e d (by have:=Heap.lt_of_get e d;omega)
theorem slice_str (s:ByteArray) (r:Nat) (h:r + 1 ≤ s.size) (H:Heap):exSlice Tryz.prog 9 (.string s) (some (.int .i64 (r:Int))) (some (.int .i64 ((r:Int) + 1))) none H=some (.string (s.extract r (r + 1)),H):=by
 have h2:(r:Int) + 1 ≤ s.size:=by omega
 have h3:((r:Int) + 1).toNat=r + 1:=by omega
 simp [exSlice,boundOf,h2,h3,show (r:Int) ≤ (r:Int) + 1 by omega]
section
variable {E:Hooks} (hE:Plain E)
include hE
theorem c_mput (args:List Value) (H:Heap):(run Tryz.prog E).call 26 args H=callB Tryz.prog E Tryz.f26 args H:=call_B Tryz.func26 rfl (by decide +kernel) (hE.no _ rfl rfl) args H
theorem c_mnext (args:List Value) (H:Heap):(run Tryz.prog E).call 28 args H=callB Tryz.prog E Tryz.f28 args H:=call_B Tryz.func28 rfl (by decide +kernel) (hE.no _ rfl rfl) args H
theorem put_ok {H0 H:Heap} {mid:Nat} {nv:Value} {N:List Int} {lo hi:Nat} {p:Int} {inn:ByteArray} (h:MKx H0 H mid nv N lo hi p inn) (s:ByteArray) (hs:hi + s.size ≤ 1000000000) :
  ∃ H',(run Tryz.prog E).call 26 [.pointer (some ⟨mid,0,none⟩),.string s] H=some (.val (.tuple #[]),H')∧MKx H0 H' mid nv N (lo + s.size) (hi + s.size) p inn:=by
 suffices key:Gives ((run Tryz.prog E).call 26 [.pointer (some ⟨mid,0,none⟩),.string s] H) fun o H'=>o = .val (.tuple #[])∧MKx H0 H' mid nv N (lo + s.size) (hi + s.size) p inn by
  obtain ⟨o,H',e,rfl,k⟩:=key
  exact ⟨H',e,k⟩
 obtain ⟨a,left,ov,out,h⟩:=h
 obtain ⟨b',H2,e2,g2,k2⟩:=out_app h.go s (by have:=h.hi;omega)
 obtain ⟨b,rfl⟩:=h.go.slice
 have o1:=h.obj
 have o2:=k2.at o1 (by simp) (fun z=>z.2 rfl)
 have l2:=Heap.lt_of_get o2 (by simp)
 rw [c_mput hE,callB,bodyOf]
 simp [Tryz.f26,o1,e2,o2]
 have sz:s.data.toList.length=s.size:=by obtain ⟨⟨l⟩⟩:=s;rfl
 refine ⟨a,left,_,out ++ s.data.toList,(h.kp.then k2 fun i hi => .inl hi.1).then_set l2 (.inl h.hm) _,h.hm,Heap.get_set_self _ _ l2,h.ha,g2.move (X:=fun i=>i=mid) (Same.then_set (X:=fun i=>i=mid) (Same.refl _ _) l2 (.inl rfl) _) ?_,?_,?_⟩
 · rintro i (hi | hi) _
   · exact ⟨hi,hi.2⟩
   · have:=h.kp.n
     have:=h.lt
     exact ⟨⟨by omega,by omega⟩,by omega⟩
 · have:=h.lo
   rw [List.length_append,sz];omega
 · have:=h.hi
   rw [List.length_append,sz];omega
theorem next_ok {H0 H:Heap} {mid:Nat} {nv:Value} {N:List Int} {lo hi:Nat} {p:Int} {inn:ByteArray} (hN:SL H0 nv N) (hl:N.length ≤ 100000) (h:MKx H0 H mid nv N lo hi p inn) (n:Int) (h1:1 ≤ n) (h2:n ≤ 100000) :
  ∃ r H',(run Tryz.prog E).call 28 [.pointer (some ⟨mid,0,none⟩),.int .i64 n] H=some (.val (.int .i64 r),H')∧0 ≤ r∧r < n∧MKx H0 H' mid nv N lo hi p inn:=by
 suffices key:Gives ((run Tryz.prog E).call 28 [.pointer (some ⟨mid,0,none⟩),.int .i64 n] H) fun o H'=>∃ r,o = .val (.int .i64 r)∧0 ≤ r∧r < n∧MKx H0 H' mid nv N lo hi p inn by
  obtain ⟨o,H',e,r,rfl,k⟩:=key
  exact ⟨r,H',e,k⟩
 obtain ⟨a,left,ov,out,h⟩:=h
 have o1:=h.obj
 obtain ⟨b,rfl⟩:=h.go.slice
 rw [c_mnext hE,callB,bodyOf]
 have q0:=q_next0
 have q1:=q_next1
 obtain ⟨b0,n0,c0,rfl⟩:=hN.slice
 have hlen:=hN.len
 simp only [lenA,Option.some.injEq] at hlen
 subst hlen
 simp [Tryz.f28,o1]
 refine region_quiet (by exact q0) ?_
 rcases Nat.lt_or_ge a N.length with hlt | hge
 · obtain ⟨r,off,own,tl,es,cs,cap,e,hg,hc,hv⟩:=SL.at (SL.keep hN h.kp) hlt
   cases e
   simp [o1,show ¬ (N.length:Int) ≤ a by omega,show ¬ n < 1 by omega]
   refine region_quiet (by exact q1) ?_
   have hr:=fun ty u v=>bin_rem (P:=Tryz.prog) ty u v .i64 N[a] n (by omega)
   have hb : -n < N[a].tmod n∧N[a].tmod n < n:=by
    have h1:=Int.tmod_lt_of_pos N[a] (show (0:Int) < n by omega)
    have h2:=Int.neg_tmod N[a] n
    have h3:=Int.tmod_lt_of_pos (-N[a]) (show (0:Int) < n by omega)
    omega
   generalize N[a].tmod n=y at hb hr
   have w1:IntKind.i64.wrap ((a:Int) + 1)=((a + 1:Nat):Int):=by rw [wrap64 _ (by omega) (by omega)];omega
   have w2:IntKind.i64.wrap (y + n)=y + n:=wrap64 _ (by omega) (by omega)
   have ea:((a + 1:Nat):Int)=(a:Int) + 1:=by omega
   have ht:=h.turn (a':=a + 1) (by omega) p inn left
   by_cases hy:y < 0
   · simp [o1,hlt,hg,hc,hv,hr,w1,w2,hy]
     rw [← ea]
     exact ⟨by omega,by omega,_,_,_,_,ht⟩
   · simp [o1,hlt,hg,hc,hv,hr,w1,w2,hy]
     rw [← ea]
     exact ⟨by omega,by omega,_,_,_,_,ht⟩
 · simp [o1,show (N.length:Int) ≤ a by omega]
   exact ⟨by omega,_,_,_,_,h⟩
theorem c_itoa (args:List Value) (H:Heap):(run Tryz.prog E).call 27 args H=callB Tryz.prog E Tryz.f27 args H:=call_B Tryz.func27 rfl (by decide +kernel) (hE.no _ rfl rfl) args H
theorem c_itoa2 (args:List Value) (H:Heap):(run Tryz.prog E).call 66 args H=callB Tryz.prog E Tryz.f66 args H:=call_B Tryz.func66 rfl (by decide +kernel) (hE.no _ rfl rfl) args H
theorem c_fmtint (args:List Value) (H:Heap):(run Tryz.prog E).call 91 args H=callB Tryz.prog E Tryz.f91 args H:=call_B Tryz.func91 rfl (by decide +kernel) (hE.no _ rfl rfl) args H
theorem c_small (args:List Value) (H:Heap):(run Tryz.prog E).call 110 args H=callB Tryz.prog E Tryz.f110 args H:=call_B Tryz.func110 rfl (by decide +kernel) (hE.no _ rfl rfl) args H
theorem small_ok (r:Nat) (hr:r < 10) (H:Heap):∃ s:ByteArray,s.size ≤ 1∧(run Tryz.prog E).call 110 [.int .i64 r] H=some (.val (.string s),H):=by
 suffices key:Gives ((run Tryz.prog E).call 110 [.int .i64 r] H) fun o H'=>∃ s:ByteArray,s.size ≤ 1∧o = .val (.string s)∧H'=H by
  obtain ⟨o,H',e,s,hs,rfl,rfl⟩:=key
  exact ⟨s,hs,e⟩
 have w1:IntKind.i64.wrap ((r:Int) + 1)=((r + 1:Nat):Int):=by rw [wrap64 _ (by omega) (by omega)];omega
 have hr':(r:Int) < 10:=by omega
 rw [c_small hE,callB,bodyOf]
 have sl:=slice_str ⟨#[48,49,50,51,52,53,54,55,56,57,97,98,99,100,101,102,103,104,105,106,107,108,109,110,111,112,113,114,115,116,117,118,119,120,121,122]⟩ r (show r + 1 ≤ 36 by omega) H
 simp [Tryz.f110,hr',w1,sl]
 omega
theorem itoa_ok (r:Int) (h0:0 ≤ r) (hr:r < 10) (H:Heap):∃ s:ByteArray,s.size ≤ 1∧(run Tryz.prog E).call 27 [.int .i64 r] H=some (.val (.string s),H):=by
 obtain ⟨n,rfl⟩:∃ n:Nat,r=n:=⟨r.toNat,by omega⟩
 obtain ⟨s,hs,e⟩:=small_ok hE n (by omega) H
 refine ⟨s,hs,?_⟩
 have e1:(run Tryz.prog E).call 91 [.int .i64 (n:Int),.int .i64 10] H=some (.val (.string s),H):=by
  suffices key:Gives ((run Tryz.prog E).call 91 [.int .i64 (n:Int),.int .i64 10] H) fun o H'=>o = .val (.string s)∧H'=H by
   obtain ⟨o,H',e,rfl,rfl⟩:=key
   exact e
  rw [c_fmtint hE,callB,bodyOf]
  simp [Tryz.f91,show (n:Int) < 100 by omega,e]
 have e2:(run Tryz.prog E).call 66 [.int .i64 (n:Int)] H=some (.val (.string s),H):=by
  suffices key:Gives ((run Tryz.prog E).call 66 [.int .i64 (n:Int)] H) fun o H'=>o = .val (.string s)∧H'=H by
   obtain ⟨o,H',e,rfl,rfl⟩:=key
   exact e
  rw [c_itoa2 hE,callB,bodyOf]
  simp [Tryz.f66,e1]
 suffices key:Gives ((run Tryz.prog E).call 27 [.int .i64 (n:Int)] H) fun o H'=>o = .val (.string s)∧H'=H by
  obtain ⟨o,H',e,rfl,rfl⟩:=key
  exact e
 rw [c_itoa hE,callB,bodyOf]
 simp [Tryz.f27,e2]
end
end Go.Vm.Make
namespace Go.Vm.Make
open Go Go.Proofs Go.Vm.Parse
attribute [local simp] repCells_succ writeAt rd_Fr toList_beq gpe gpn spe gse gsn ne_r0 ne_l0 le_s0 op_index
theorem MKx.low {H0 H:Heap} {mid:Nat} {nv:Value} {N:List Int} {lo lo' hi:Nat} {p:Int} {inn:ByteArray} (h:MKx H0 H mid nv N lo hi p inn) (hh:lo' ≤ lo):MKx H0 H mid nv N lo' hi p inn:=by
 obtain ⟨a,left,ov,out,h⟩:=h
 exact ⟨a,left,ov,out,h.kp,h.hm,h.obj,h.ha,h.go,Nat.le_trans hh h.lo,h.hi⟩
theorem idxA_arr {P:Program} {ty:TypeId} {len:Nat} {e:TypeId} (hty:P.underlying ty=some (.array len e)) (hs:sizeT P e=some 1) (ha:aggT P e=some false) {cs:List Value} {kd:IntKind} {j:Int} (h0:0 ≤ j) (hj:j < (len:Int)) {v:Value} (hv:cs[j.toNat]? = some v) (H:Heap) :
  idxA P ty (some (.agg ⟨cs⟩)) (some (.int kd j)) H=some (.val v,H):=by
 simp [idxA,hty,hs,partA,ha,h0,hj,hv]
theorem gives_idx6 {a0 a1 a2 a3 a4 a5:ByteArray} {j:Int} {H:Heap} {Q:Out→Heap→Prop} (h0:a0.size ≤ 40) (h1:a1.size ≤ 40) (h2:a2.size ≤ 40) (h3:a3.size ≤ 40) (h4:a4.size ≤ 40) (h5:a5.size ≤ 40) (h:0 ≤ j) (hj:j < 6) (k:∀ s:ByteArray,s.size ≤ 40→Q (.val (.string s)) H) :
  Gives (idxA Tryz.prog 140 (some (.agg ⟨[.string a0,.string a1,.string a2,.string a3,.string a4,.string a5]⟩)) (some (.int .i64 j)) H) Q:=by
 rcases (show j=0∨j=1∨j=2∨j=3∨j=4∨j=5 by omega) with rfl | rfl | rfl | rfl | rfl | rfl
 · exact ⟨_,_,idxA_arr Tryz.underlying140 (by simp) (by simp) (by omega) (by omega) rfl H,k _ h0⟩
 · exact ⟨_,_,idxA_arr Tryz.underlying140 (by simp) (by simp) (by omega) (by omega) rfl H,k _ h1⟩
 · exact ⟨_,_,idxA_arr Tryz.underlying140 (by simp) (by simp) (by omega) (by omega) rfl H,k _ h2⟩
 · exact ⟨_,_,idxA_arr Tryz.underlying140 (by simp) (by simp) (by omega) (by omega) rfl H,k _ h3⟩
 · exact ⟨_,_,idxA_arr Tryz.underlying140 (by simp) (by simp) (by omega) (by omega) rfl H,k _ h4⟩
 · exact ⟨_,_,idxA_arr Tryz.underlying140 (by simp) (by simp) (by omega) (by omega) rfl H,k _ h5⟩
theorem gives_idx2 {a0 a1:ByteArray} {j:Int} {H:Heap} {Q:Out→Heap→Prop} (h0:a0.size ≤ 40) (h1:a1.size ≤ 40) (h:0 ≤ j) (hj:j < 2) (k:∀ s:ByteArray,s.size ≤ 40→Q (.val (.string s)) H) :
  Gives (idxA Tryz.prog 139 (some (.agg ⟨[.string a0,.string a1]⟩)) (some (.int .i64 j)) H) Q:=by
 rcases (show j=0∨j=1 by omega) with rfl | rfl
 · exact ⟨_,_,idxA_arr Tryz.underlying139 (by simp) (by simp) (by omega) (by omega) rfl H,k _ h0⟩
 · exact ⟨_,_,idxA_arr Tryz.underlying139 (by simp) (by simp) (by omega) (by omega) rfl H,k _ h1⟩
theorem gives_idx3 {a0 a1 a2:ByteArray} {j:Int} {H:Heap} {Q:Out→Heap→Prop} (h0:a0.size ≤ 40) (h1:a1.size ≤ 40) (h2:a2.size ≤ 40) (h:0 ≤ j) (hj:j < 3) (k:∀ s:ByteArray,s.size ≤ 40→Q (.val (.string s)) H) :
  Gives (idxA Tryz.prog 40 (some (.agg ⟨[.string a0,.string a1,.string a2]⟩)) (some (.int .i64 j)) H) Q:=by
 rcases (show j=0∨j=1∨j=2 by omega) with rfl | rfl | rfl
 · exact ⟨_,_,idxA_arr Tryz.underlying40 (by simp) (by simp) (by omega) (by omega) rfl H,k _ h0⟩
 · exact ⟨_,_,idxA_arr Tryz.underlying40 (by simp) (by simp) (by omega) (by omega) rfl H,k _ h1⟩
 · exact ⟨_,_,idxA_arr Tryz.underlying40 (by simp) (by simp) (by omega) (by omega) rfl H,k _ h2⟩
section
variable {E:Hooks} (hE:Plain E) {H0:Heap} {mid:Nat} {nv:Value} {N:List Int} (hN:SL H0 nv N) (hl:N.length ≤ 100000)
include hE
theorem gives_put {H:Heap} {lo hi:Nat} {p:Int} {inn:ByteArray} (h:MKx H0 H mid nv N lo hi p inn) {s:ByteArray} {Q:Out→Heap→Prop} (hs:s.size ≤ 40) (hb:hi ≤ 900000000)
  (k:∀ H',MKx H0 H' mid nv N lo (hi + 40) p inn→Q (.val (.tuple #[])) H'):Gives ((run Tryz.prog E).call 26 [.pointer (some ⟨mid,0,none⟩),.string s] H) Q:=by
 obtain ⟨H',e,h'⟩:=put_ok hE h s (by omega)
 exact ⟨_,_,e,k H' ((h'.low (Nat.le_add_right _ _)).more (by omega))⟩
include hN hl
theorem gives_next {H:Heap} {lo hi:Nat} {p:Int} {inn:ByteArray} (h:MKx H0 H mid nv N lo hi p inn) {n:Int} {Q:Out→Heap→Prop} (h1:1 ≤ n) (h2:n ≤ 1000)
  (k:∀ r H',0 ≤ r→r < n→MKx H0 H' mid nv N lo hi p inn→Q (.val (.int .i64 r)) H'):Gives ((run Tryz.prog E).call 28 [.pointer (some ⟨mid,0,none⟩),.int .i64 n] H) Q:=by
 obtain ⟨r,H',e,h3,h4,h'⟩:=next_ok hE hN hl h n h1 (by omega)
 exact ⟨_,_,e,k r H' h3 h4 h'⟩
theorem c_mnum (args:List Value) (H:Heap):(run Tryz.prog E).call 29 args H=callB Tryz.prog E Tryz.f29 args H:=call_B Tryz.func29 rfl (by decide +kernel) (hE.no _ rfl rfl) args H
theorem c_mexpr (args:List Value) (H:Heap):(run Tryz.prog E).call 69 args H=callB Tryz.prog E Tryz.f69 args H:=call_B Tryz.func69 rfl (by decide +kernel) (hE.no _ rfl rfl) args H
theorem gives_num {H:Heap} {lo hi:Nat} {p:Int} {inn:ByteArray} (h:MKx H0 H mid nv N lo hi p inn) {n:Int} {Q:Out→Heap→Prop} (h1:1 ≤ n) (h2:n ≤ 10) (hb:hi ≤ 900000000)
  (k:∀ H',MKx H0 H' mid nv N lo (hi + 40) p inn→Q (.val (.tuple #[])) H'):Gives ((run Tryz.prog E).call 29 [.pointer (some ⟨mid,0,none⟩),.int .i64 n] H) Q:=by
 rw [c_mnum hE hN hl,callB,bodyOf]
 simp [Tryz.f29]
 refine gives_next hE hN hl h h1 (by omega) fun r H1 h3 h4 h => ?_
 obtain ⟨s,hs,e⟩:=itoa_ok hE r h3 (by omega) H1
 simp [e]
 refine gives_put hE h (by omega) hb fun H2 h => ?_
 simp
 exact k _ h
def bE:Nat→Nat
 | 0=>100
 | d + 1=>2 * bE d + 300
def InOK (inn:ByteArray):Prop:=inn=ByteArray.empty∨inn=⟨#[118]⟩∨inn=⟨#[119]⟩
theorem expr_ok:∀ d:Nat,d ≤ 3→∀ {H:Heap} {lo hi:Nat} {p:Int} {inn:ByteArray} {Q:Out→Heap→Prop},MKx H0 H mid nv N lo hi p inn→InOK inn→hi + bE d ≤ 900000000 →
  (∀ H',MKx H0 H' mid nv N lo (hi + bE d) p inn→Q (.val (.tuple #[])) H')→Gives ((run Tryz.prog E).call 69 [.pointer (some ⟨mid,0,none⟩),.int .i64 (d:Int)] H) Q:=by
 intro d
 induction d using Nat.strongRecOn with
 | _ d ih =>
 intro hd3 H lo hi p inn Q h hin hb k
 rw [c_mexpr hE hN hl,callB,bodyOf]
 simp [Tryz.f69]
 refine gives_next hE hN hl h (by omega) (by omega) fun r H1 h3 h4 h => ?_
 have hb0:100 ≤ bE d:=by cases d <;> simp only [bE] <;> omega
 have fin:∀ {H'},MKx H0 H' mid nv N lo (hi + 40) p inn→Q (.val (.tuple #[])) H':=fun h=>k _ (h.more (by omega))
 have o1:∃ (a:Nat) (left:Int) (ov:Value),H1.get mid = .row true 0 1 [nv,.int .i64 a,ov,.int .i64 p,.string inn,.int .i64 left]:=by
  obtain ⟨a,left,ov,out,hm⟩:=h
  exact ⟨_,_,_,hm.obj⟩
 obtain ⟨a,left,ov,o1⟩:=o1
 have z0:IntKind.i64.wrap 0=0:=wrap64 0 (by omega) (by omega)
 have z1:IntKind.i64.wrap 1=1:=wrap64 1 (by omega) (by omega)
 have z2:IntKind.i64.wrap 2=2:=wrap64 2 (by omega) (by omega)
 have z3:IntKind.i64.wrap 3=3:=wrap64 3 (by omega) (by omega)
 rcases Nat.eq_zero_or_pos d with rfl | hd
 · rcases (show r=0∨r=1∨r=2∨r=3∨r=4∨r=5∨r=6∨r=7∨r=8 by omega) with rfl | rfl | rfl | rfl | rfl | rfl | rfl | rfl | rfl
   · simp;refine gives_num hE hN hl h (by omega) (by omega) (by omega) fun H2 h => ?_;simp;exact fin h
   · by_cases hp:0 < p <;> simp [o1,hp] <;> (refine gives_put hE h (by decide) (by omega) fun H2 h => ?_;simp;exact fin h)
   · by_cases hp:0 < p <;> simp [o1,hp] <;> (refine gives_put hE h (by decide) (by omega) fun H2 h => ?_;simp;exact fin h)
   · rcases hin with rfl | rfl | rfl <;> simp [o1] <;> (refine gives_put hE h (by decide) (by omega) fun H2 h => ?_;simp;exact fin h)
   · rcases hin with rfl | rfl | rfl <;> simp [o1] <;> (refine gives_put hE h (by decide) (by omega) fun H2 h => ?_;simp;exact fin h)
   · simp [z0,z1,z2,z3];refine gives_num hE hN hl h (by omega) (by omega) (by omega) fun H2 h => ?_;simp;exact fin h
   · by_cases hp:0 < p <;> simp [o1,hp,z0,z1,z2,z3] <;> (refine gives_put hE h (by decide) (by omega) fun H2 h => ?_;simp;exact fin h)
   · by_cases hp:0 < p <;> simp [o1,hp,z0,z1,z2,z3] <;> (refine gives_put hE h (by decide) (by omega) fun H2 h => ?_;simp;exact fin h)
   · rcases hin with rfl | rfl | rfl <;> simp [o1,z0,z1,z2,z3] <;> (refine gives_put hE h (by decide) (by omega) fun H2 h => ?_;simp;exact fin h)
 · obtain ⟨e,rfl⟩:∃ e,d=e + 1:=⟨d - 1,by omega⟩
   have d0:¬ ((e:Int) + 1=0):=by omega
   have w0:IntKind.i64.wrap ((e:Int) + 1 - 1)=e:=by rw [wrap64 _ (by omega) (by omega)];omega
   have w1:IntKind.i64.wrap (e:Int)=e:=wrap64 _ (by omega) (by omega)
   simp only [bE] at hb k hb0 fin
   rcases (show r=0∨r=1∨r=2∨r=3∨r=4∨r=5∨r=6∨r=7∨r=8 by omega) with rfl | rfl | rfl | rfl | rfl | rfl | rfl | rfl | rfl
   · simp [d0];refine gives_num hE hN hl h (by omega) (by omega) (by omega) fun H2 h => ?_;simp;exact fin h
   · by_cases hp:0 < p <;> simp [d0,o1,hp] <;> (refine gives_put hE h (by decide) (by omega) fun H2 h => ?_;simp;exact fin h)
   · by_cases hp:0 < p <;> simp [d0,o1,hp] <;> (refine gives_put hE h (by decide) (by omega) fun H2 h => ?_;simp;exact fin h)
   · rcases hin with rfl | rfl | rfl <;> simp [d0,o1] <;> (refine gives_put hE h (by decide) (by omega) fun H2 h => ?_;simp;exact fin h)
   · rcases hin with rfl | rfl | rfl <;> simp [d0,o1] <;> (refine gives_put hE h (by decide) (by omega) fun H2 h => ?_;simp;exact fin h)
   · simp [d0]
     refine gives_put hE h (by decide) (by omega) fun H2 h => ?_
     simp
     have:=ih 0 (by omega) (by omega) (H:=H2) h hin (by simp only [bE];omega) (Q:=fun o H'=>o = .val (.tuple #[])∧MKx H0 H' mid nv N lo (hi + 40 + bE 0) p inn) (fun H' h=>⟨rfl,h⟩)
     obtain ⟨o,H3,e3,rfl,h⟩:=this
     simp at e3
     simp [e3]
     exact k _ (h.more (by simp only [bE];omega))
   all_goals
    simp [d0]
    refine gives_put hE h (by decide) (by omega) fun H2 h => ?_
    simp [w0,w1]
    refine Gives.mono (ih e (by omega) (by omega) (H:=H2) h hin (by omega) (Q:=fun o H'=>o = .val (.tuple #[])∧MKx H0 H' mid nv N lo (hi + 40 + bE e) p inn) (fun H' h=>⟨rfl,h⟩)) ?_
    rintro _ H3 ⟨rfl,h⟩
    simp
    refine gives_next hE hN hl h (by omega) (by omega) fun j H4 h5 h6 h => ?_
    simp
    refine gives_idx6 (by decide) (by decide) (by decide) (by decide) (by decide) (by decide) h5 h6 fun s hs => ?_
    simp
    refine gives_put hE h hs (by omega) fun H5 h => ?_
    simp [w0,w1]
    refine Gives.mono (ih e (by omega) (by omega) (H:=H5) h hin (by omega) (Q:=fun o H'=>o = .val (.tuple #[])∧MKx H0 H' mid nv N lo (hi + 40 + bE e + 40 + bE e) p inn) (fun H' h=>⟨rfl,h⟩)) ?_
    rintro _ H6 ⟨rfl,h⟩
    simp
    refine gives_put hE h (by decide) (by omega) fun H7 h => ?_
    simp
    exact k _ (h.more (by omega))
end
theorem pl_callee:planOf Tryz.prog (drawN Tryz.f68 0)=some [some (0,1),some (0,1),some (0,1),some (0,1),some (0,1),none,none,none,none,none,none,none,none,none]:=by decide +kernel
theorem MKx.row {H0 H:Heap} {mid:Nat} {nv:Value} {N:List Int} {lo hi:Nat} {p:Int} {inn:ByteArray} (h:MKx H0 H mid nv N lo hi p inn):∃ (a:Nat) (left:Int) (b:Option Addr) (n:Nat),H.get mid = .row true 0 1 [nv,.int .i64 a,.slice b n n,.int .i64 p,.string inn,.int .i64 left]:=by
 obtain ⟨a,left,ov,out,hm⟩:=h
 obtain ⟨b,rfl⟩:=hm.go.slice
 exact ⟨_,_,_,_,hm.obj⟩
def bC:Nat→Nat
 | 0=>2 * bE 1 + 400
 | d + 1=>2 * bC d + 2 * bE 1 + 400
section
variable {E:Hooks} (hE:Plain E) {H0:Heap} {mid:Nat} {nv:Value} {N:List Int} (hN:SL H0 nv N) (hl:N.length ≤ 100000)
include hE hN hl
theorem gives_expr (d:Nat) (hd:d ≤ 3) {H:Heap} {lo hi:Nat} {p:Int} {inn:ByteArray} (h:MKx H0 H mid nv N lo hi p inn) (hin:InOK inn) {z:Int} {Q:Out→Heap→Prop} (hz:z=d) (hb:hi + bE d ≤ 900000000)
  (k:∀ H',MKx H0 H' mid nv N lo (hi + bE d) p inn→Q (.val (.tuple #[])) H'):Gives ((run Tryz.prog E).call 69 [.pointer (some ⟨mid,0,none⟩),.int .i64 z] H) Q:=by
 subst hz
 exact expr_ok hE hN hl d hd h hin hb k
theorem c_mcond (args:List Value) (H:Heap):(run Tryz.prog E).call 32 args H=callB Tryz.prog E Tryz.f32 args H:=call_B Tryz.func32 rfl (by decide +kernel) (hE.no _ rfl rfl) args H
theorem c_mwait (args:List Value) (H:Heap):(run Tryz.prog E).call 114 args H=callB Tryz.prog E Tryz.f114 args H:=call_B Tryz.func114 rfl (by decide +kernel) (hE.no _ rfl rfl) args H
theorem c_mitems (args:List Value) (H:Heap):(run Tryz.prog E).call 92 args H=callB Tryz.prog E Tryz.f92 args H:=call_B Tryz.func92 rfl (by decide +kernel) (hE.no _ rfl rfl) args H
theorem c_mcallee (args:List Value) (H:Heap):(run Tryz.prog E).call 68 args H=callB Tryz.prog E Tryz.f68 args H:=call_B Tryz.func68 rfl (by decide +kernel) (hE.no _ rfl rfl) args H
theorem cond_ok:∀ d:Nat,d ≤ 3→∀ {H:Heap} {lo hi:Nat} {p:Int} {inn:ByteArray} {Q:Out→Heap→Prop},MKx H0 H mid nv N lo hi p inn→InOK inn→hi + bC d ≤ 900000000 →
  (∀ H',MKx H0 H' mid nv N lo (hi + bC d) p inn→Q (.val (.tuple #[])) H')→Gives ((run Tryz.prog E).call 32 [.pointer (some ⟨mid,0,none⟩),.int .i64 (d:Int)] H) Q:=by
 intro d
 induction d using Nat.strongRecOn with
 | _ d ih =>
 intro hd3 H lo hi p inn Q h hin hb k
 rw [c_mcond hE hN hl,callB,bodyOf]
 simp [Tryz.f32]
 refine gives_next hE hN hl h (by omega) (by omega) fun r H1 h3 h4 h => ?_
 have hb0:2 * bE 1 + 400 ≤ bC d:=by cases d <;> simp only [bC] <;> omega
 rcases Nat.eq_zero_or_pos d with rfl | hd
 · rcases (show r=0∨r=1∨r=2∨r=3∨r=4∨r=5∨r=6∨r=7 by omega) with rfl | rfl | rfl | rfl | rfl | rfl | rfl | rfl
   · simp
     refine gives_expr hE hN hl 1 (by omega) h hin rfl (by omega) fun H2 h => ?_
     simp
     refine gives_next hE hN hl h (by omega) (by omega) fun j H4 h5 h6 h => ?_
     simp
     refine gives_idx6 (by decide) (by decide) (by decide) (by decide) (by decide) (by decide) h5 h6 fun s hs => ?_
     simp
     refine gives_put hE h hs (by omega) fun H5 h => ?_
     simp
     refine gives_expr hE hN hl 1 (by omega) h hin rfl (by omega) fun H6 h => ?_
     simp
     exact k _ (h.more (by omega))
   · simp
     refine gives_expr hE hN hl 1 (by omega) h hin rfl (by omega) fun H2 h => ?_
     simp
     refine gives_next hE hN hl h (by omega) (by omega) fun j H4 h5 h6 h => ?_
     simp
     refine gives_idx6 (by decide) (by decide) (by decide) (by decide) (by decide) (by decide) h5 h6 fun s hs => ?_
     simp
     refine gives_put hE h hs (by omega) fun H5 h => ?_
     simp
     refine gives_expr hE hN hl 1 (by omega) h hin rfl (by omega) fun H6 h => ?_
     simp
     exact k _ (h.more (by omega))
   · simp
     refine gives_expr hE hN hl 1 (by omega) h hin rfl (by omega) fun H2 h => ?_
     simp
     refine gives_next hE hN hl h (by omega) (by omega) fun j H4 h5 h6 h => ?_
     simp
     refine gives_idx6 (by decide) (by decide) (by decide) (by decide) (by decide) (by decide) h5 h6 fun s hs => ?_
     simp
     refine gives_put hE h hs (by omega) fun H5 h => ?_
     simp
     refine gives_expr hE hN hl 1 (by omega) h hin rfl (by omega) fun H6 h => ?_
     simp
     exact k _ (h.more (by omega))
   · simp
     refine gives_expr hE hN hl 1 (by omega) h hin rfl (by omega) fun H2 h => ?_
     simp
     refine gives_next hE hN hl h (by omega) (by omega) fun j H4 h5 h6 h => ?_
     simp
     refine gives_idx6 (by decide) (by decide) (by decide) (by decide) (by decide) (by decide) h5 h6 fun s hs => ?_
     simp
     refine gives_put hE h hs (by omega) fun H5 h => ?_
     simp
     refine gives_expr hE hN hl 1 (by omega) h hin rfl (by omega) fun H6 h => ?_
     simp
     exact k _ (h.more (by omega))
   · simp
     refine gives_next hE hN hl h (by omega) (by omega) fun j H4 h5 h6 h => ?_
     simp
     refine gives_idx2 (by decide) (by decide) h5 h6 fun s hs => ?_
     simp
     refine gives_put hE h hs (by omega) fun H5 h => ?_
     simp
     exact k _ (h.more (by omega))
   · simp
     refine gives_expr hE hN hl 1 (by omega) h hin rfl (by omega) fun H2 h => ?_
     simp
     refine gives_next hE hN hl h (by omega) (by omega) fun j H4 h5 h6 h => ?_
     simp
     refine gives_idx6 (by decide) (by decide) (by decide) (by decide) (by decide) (by decide) h5 h6 fun s hs => ?_
     simp
     refine gives_put hE h hs (by omega) fun H5 h => ?_
     simp
     refine gives_expr hE hN hl 1 (by omega) h hin rfl (by omega) fun H6 h => ?_
     simp
     exact k _ (h.more (by omega))
   · simp
     refine gives_expr hE hN hl 1 (by omega) h hin rfl (by omega) fun H2 h => ?_
     simp
     refine gives_next hE hN hl h (by omega) (by omega) fun j H4 h5 h6 h => ?_
     simp
     refine gives_idx6 (by decide) (by decide) (by decide) (by decide) (by decide) (by decide) h5 h6 fun s hs => ?_
     simp
     refine gives_put hE h hs (by omega) fun H5 h => ?_
     simp
     refine gives_expr hE hN hl 1 (by omega) h hin rfl (by omega) fun H6 h => ?_
     simp
     exact k _ (h.more (by omega))
   · simp
     refine gives_expr hE hN hl 1 (by omega) h hin rfl (by omega) fun H2 h => ?_
     simp
     refine gives_next hE hN hl h (by omega) (by omega) fun j H4 h5 h6 h => ?_
     simp
     refine gives_idx6 (by decide) (by decide) (by decide) (by decide) (by decide) (by decide) h5 h6 fun s hs => ?_
     simp
     refine gives_put hE h hs (by omega) fun H5 h => ?_
     simp
     refine gives_expr hE hN hl 1 (by omega) h hin rfl (by omega) fun H6 h => ?_
     simp
     exact k _ (h.more (by omega))
 · obtain ⟨e,rfl⟩:∃ e,d=e + 1:=⟨d - 1,by omega⟩
   have d0:¬ ((e:Int) + 1=0):=by omega
   have w1:IntKind.i64.wrap (e:Int)=e:=wrap64 _ (by omega) (by omega)
   have z0:IntKind.i64.wrap 0=0:=wrap64 0 (by omega) (by omega)
   have z1:IntKind.i64.wrap 1=1:=wrap64 1 (by omega) (by omega)
   have hce:bC (e + 1)=2 * bC e + 2 * bE 1 + 400:=rfl
   have rec_:∀ {H:Heap} {hi':Nat} {Q:Out→Heap→Prop},MKx H0 H mid nv N lo hi' p inn→hi' + bC e ≤ 900000000→(∀ H',MKx H0 H' mid nv N lo (hi' + bC e) p inn→Q (.val (.tuple #[])) H')→Gives ((run Tryz.prog E).call 32 [.pointer (some ⟨mid,0,none⟩),.int .i64 (e:Int)] H) Q :=
    fun h hb k=>ih e (by omega) (by omega) h hin hb k
   rcases (show r=0∨r=1∨r=2∨r=3∨r=4∨r=5∨r=6∨r=7 by omega) with rfl | rfl | rfl | rfl | rfl | rfl | rfl | rfl
   · simp [d0]
     refine gives_expr hE hN hl 1 (by omega) h hin rfl (by omega) fun H2 h => ?_
     simp
     refine gives_next hE hN hl h (by omega) (by omega) fun j H4 h5 h6 h => ?_
     simp
     refine gives_idx6 (by decide) (by decide) (by decide) (by decide) (by decide) (by decide) h5 h6 fun s hs => ?_
     simp
     refine gives_put hE h hs (by omega) fun H5 h => ?_
     simp
     refine gives_expr hE hN hl 1 (by omega) h hin rfl (by omega) fun H6 h => ?_
     simp
     exact k _ (h.more (by omega))
   · simp [d0]
     refine gives_expr hE hN hl 1 (by omega) h hin rfl (by omega) fun H2 h => ?_
     simp
     refine gives_next hE hN hl h (by omega) (by omega) fun j H4 h5 h6 h => ?_
     simp
     refine gives_idx6 (by decide) (by decide) (by decide) (by decide) (by decide) (by decide) h5 h6 fun s hs => ?_
     simp
     refine gives_put hE h hs (by omega) fun H5 h => ?_
     simp
     refine gives_expr hE hN hl 1 (by omega) h hin rfl (by omega) fun H6 h => ?_
     simp
     exact k _ (h.more (by omega))
   · simp [d0]
     refine gives_expr hE hN hl 1 (by omega) h hin rfl (by omega) fun H2 h => ?_
     simp
     refine gives_next hE hN hl h (by omega) (by omega) fun j H4 h5 h6 h => ?_
     simp
     refine gives_idx6 (by decide) (by decide) (by decide) (by decide) (by decide) (by decide) h5 h6 fun s hs => ?_
     simp
     refine gives_put hE h hs (by omega) fun H5 h => ?_
     simp
     refine gives_expr hE hN hl 1 (by omega) h hin rfl (by omega) fun H6 h => ?_
     simp
     exact k _ (h.more (by omega))
   · simp [d0]
     refine gives_expr hE hN hl 1 (by omega) h hin rfl (by omega) fun H2 h => ?_
     simp
     refine gives_next hE hN hl h (by omega) (by omega) fun j H4 h5 h6 h => ?_
     simp
     refine gives_idx6 (by decide) (by decide) (by decide) (by decide) (by decide) (by decide) h5 h6 fun s hs => ?_
     simp
     refine gives_put hE h hs (by omega) fun H5 h => ?_
     simp
     refine gives_expr hE hN hl 1 (by omega) h hin rfl (by omega) fun H6 h => ?_
     simp
     exact k _ (h.more (by omega))
   · simp [d0]
     refine gives_next hE hN hl h (by omega) (by omega) fun j H4 h5 h6 h => ?_
     simp
     refine gives_idx2 (by decide) (by decide) h5 h6 fun s hs => ?_
     simp
     refine gives_put hE h hs (by omega) fun H5 h => ?_
     simp
     exact k _ (h.more (by omega))
   · simp [d0]
     refine gives_put hE h (by decide) (by omega) fun H2 h => ?_
     simp [w1]
     refine rec_ h (by omega) fun H3 h => ?_
     simp
     refine gives_put hE h (by decide) (by omega) fun H4 h => ?_
     simp
     exact k _ (h.more (by omega))
   · simp [d0]
     refine gives_put hE h (by decide) (by omega) fun H2 h => ?_
     simp [w1]
     refine rec_ h (by omega) fun H3 h => ?_
     simp [z0]
     refine gives_idx2 (by decide) (by decide) (by omega) (by omega) fun s hs => ?_
     simp
     refine gives_put hE h hs (by omega) fun H5 h => ?_
     simp [w1]
     refine rec_ h (by omega) fun H3 h => ?_
     simp
     refine gives_put hE h (by decide) (by omega) fun H4 h => ?_
     simp
     exact k _ (h.more (by omega))
   · simp [d0]
     refine gives_put hE h (by decide) (by omega) fun H2 h => ?_
     simp [w1]
     refine rec_ h (by omega) fun H3 h => ?_
     simp [z1]
     refine gives_idx2 (by decide) (by decide) (by omega) (by omega) fun s hs => ?_
     simp
     refine gives_put hE h hs (by omega) fun H5 h => ?_
     simp [w1]
     refine rec_ h (by omega) fun H3 h => ?_
     simp
     refine gives_put hE h (by decide) (by omega) fun H4 h => ?_
     simp
     exact k _ (h.more (by omega))
theorem gives_cond (d:Nat) (hd:d ≤ 3) {H:Heap} {lo hi:Nat} {p:Int} {inn:ByteArray} (h:MKx H0 H mid nv N lo hi p inn) (hin:InOK inn) {z:Int} {Q:Out→Heap→Prop} (hz:z=d) (hb:hi + bC d ≤ 900000000)
  (k:∀ H',MKx H0 H' mid nv N lo (hi + bC d) p inn→Q (.val (.tuple #[])) H'):Gives ((run Tryz.prog E).call 32 [.pointer (some ⟨mid,0,none⟩),.int .i64 z] H) Q:=by
 subst hz
 exact cond_ok hE hN hl d hd h hin hb k
theorem gives_wait {H:Heap} {lo hi:Nat} {p:Int} {inn:ByteArray} (h:MKx H0 H mid nv N lo hi p inn) (hin:InOK inn) {Q:Out→Heap→Prop} (hb:hi + 200 ≤ 900000000)
  (k:∀ H',MKx H0 H' mid nv N lo (hi + 200) p inn→Q (.val (.tuple #[])) H'):Gives ((run Tryz.prog E).call 114 [.pointer (some ⟨mid,0,none⟩)] H) Q:=by
 rw [c_mwait hE hN hl,callB,bodyOf]
 obtain ⟨a,left,b,n,o1⟩:=h.row
 rcases hin with rfl | rfl | rfl
 all_goals
  simp [Tryz.f114,o1]
  refine gives_put hE h (by decide) (by omega) fun H2 h => ?_
  simp
  refine gives_next hE hN hl h (by omega) (by omega) fun j H4 h5 h6 h => ?_
  simp
  refine gives_idx3 (by decide) (by decide) (by decide) h5 h6 fun s hs => ?_
  simp
  refine gives_put hE h hs (by omega) fun H5 h => ?_
  simp
  refine gives_num hE hN hl h (by omega) (by omega) (by omega) fun H6 h => ?_
  simp
  exact k _ (h.more (by omega))
theorem gives_items {H:Heap} {lo hi:Nat} {p:Int} {inn:ByteArray} (h:MKx H0 H mid nv N lo hi p inn) {Q:Out→Heap→Prop} (hb:hi + 200 ≤ 900000000)
  (k:∀ H',MKx H0 H' mid nv N lo (hi + 200) p inn→Q (.val (.tuple #[])) H'):Gives ((run Tryz.prog E).call 92 [.pointer (some ⟨mid,0,none⟩)] H) Q:=by
 rw [c_mitems hE hN hl,callB,bodyOf]
 simp [Tryz.f92]
 refine gives_next hE hN hl h (by omega) (by omega) fun r H1 h3 h4 h => ?_
 by_cases hr:r=0
 · subst hr
   simp
   refine gives_put hE h (by decide) (by omega) fun H2 h => ?_
   simp
   refine gives_put hE h (by decide) (by omega) fun H2 h => ?_
   simp
   refine gives_next hE hN hl h (by omega) (by omega) fun r H1 h3 h4 h => ?_
   obtain ⟨s,hs,e⟩:=itoa_ok hE (1 + r) (by omega) (by omega) H1
   simp [wrap64 (1 + r) (by omega) (by omega),e]
   refine gives_put hE h (by omega) (by omega) fun H2 h => ?_
   simp
   exact k _ (h.more (by omega))
 · simp [hr]
   refine gives_put hE h (by decide) (by omega) fun H2 h => ?_
   simp
   refine gives_next hE hN hl h (by omega) (by omega) fun r H1 h3 h4 h => ?_
   obtain ⟨s,hs,e⟩:=itoa_ok hE (1 + r) (by omega) (by omega) H1
   simp [wrap64 (1 + r) (by omega) (by omega),e]
   refine gives_put hE h (by omega) (by omega) fun H2 h => ?_
   simp
   exact k _ (h.more (by omega))
theorem callee_ok {H:Heap} {lo hi:Nat} {p:Int} {inn:ByteArray} (h:MKx H0 H mid nv N lo hi p inn) (hp0:0 ≤ p) (hp3:p ≤ 3) :
  ∃ r H',(run Tryz.prog E).call 68 [.pointer (some ⟨mid,0,none⟩)] H=some (.val (.int .i64 r),H')∧1 ≤ r∧r ≤ 3∧MKx H0 H' mid nv N lo hi p inn:=by
 suffices key:Gives ((run Tryz.prog E).call 68 [.pointer (some ⟨mid,0,none⟩)] H) fun o H'=>∃ r,o = .val (.int .i64 r)∧1 ≤ r∧r ≤ 3∧MKx H0 H' mid nv N lo hi p inn by
  obtain ⟨o,H',e,r,rfl,k⟩:=key
  exact ⟨r,H',e,k⟩
 rw [c_mcallee hE hN hl,callB,bodyOf]
 obtain ⟨a,left,b,n,o1⟩:=h.row
 by_cases h3:3 ≤ p
 · simp [Tryz.f68,o1,h3]
   exact h
 · obtain ⟨r,H1,e,h5,h6,h7⟩:=next_ok hE hN hl h (3 - p) (by omega) (by omega)
   obtain ⟨a',left',b',n',o2⟩:=h7.row
   have w1:IntKind.i64.wrap (p + 1)=p + 1:=wrap64 _ (by omega) (by omega)
   have w2:IntKind.i64.wrap (3 - p)=3 - p:=wrap64 _ (by omega) (by omega)
   have w3:IntKind.i64.wrap (p + 1 + r)=p + 1 + r:=wrap64 _ (by omega) (by omega)
   simp [Tryz.f68,o1,h3]
   refine region_plan (by exact pl_callee) ?_
   simp [drawF,o1,w1,w2,e,w3,o2]
   exact ⟨by omega,by omega,h7⟩
end
def bF:Nat:=400 + bE 1
def FkI (H0:Heap) (mid:Nat) (nv:Value) (N:List Int) (lo hi:Nat) (p:Int) (inn:ByteArray) (n:Nat) (m:Nat) (t:List Value) (K:Heap):Prop :=
 ∃ i:Nat,i ≤ n∧m=n - i∧rd t 3 = .int .i64 i∧MKx H0 K mid nv N lo (hi + 40 + i * bF) p inn
section
variable {E:Hooks} (hE:Plain E) {H0:Heap} {mid:Nat} {nv:Value} {N:List Int} (hN:SL H0 nv N) (hl:N.length ≤ 100000)
include hE hN hl
theorem c_mfork (args:List Value) (H:Heap):(run Tryz.prog E).call 31 args H=callB Tryz.prog E Tryz.f31 args H:=call_B Tryz.func31 rfl (by decide +kernel) (hE.no _ rfl rfl) args H
theorem gives_fork {H:Heap} {lo hi:Nat} {p:Int} {inn:ByteArray} (h:MKx H0 H mid nv N lo hi p inn) (hin:InOK inn) (hp0:0 ≤ p) (hp3:p ≤ 3) {Q:Out→Heap→Prop} (hb:hi + 3 * bF + 80 ≤ 800000000)
  (k:∀ H',MKx H0 H' mid nv N lo (hi + 3 * bF + 80) p inn→Q (.val (.tuple #[])) H'):Gives ((run Tryz.prog E).call 31 [.pointer (some ⟨mid,0,none⟩)] H) Q:=by
 rw [c_mfork hE hN hl,callB,bodyOf]
 have hbF:bF=400 + bE 1:=rfl
 have hbE:bE 1 ≤ 1000:=by decide
 have c1:(⟨#[112]⟩:ByteArray).size=1:=rfl
 have c2:(⟨#[40]⟩:ByteArray).size=1:=rfl
 simp [Tryz.f31]
 refine gives_next hE hN hl h (by omega) (by omega) fun r H1 r1 r3 h => ?_
 obtain ⟨n,hn⟩:∃ n:Nat,1 + r=n:=⟨(1 + r).toNat,by omega⟩
 simp [wrap64 (1 + r) (by omega) (by omega)]
 rw [hn]
 refine gives_put hE h (by decide) (by omega) fun H2 h => ?_
 simp
 refine loop_mid2 (fun t K=>MKx H0 K mid nv N lo (hi + 40 + 3 * bF) p inn) (FkI H0 mid nv N lo hi p inn n) n ?_ ?_ ?_
 · exact ⟨0,Nat.zero_le _,by omega,by simp,h.more (by omega)⟩
 · rintro m t K hkk ⟨i,hi',rfl,g3,h⟩
   have ht:t.length=47:=hkk.1.trans (by simp [len_Bs])
   have hh:=hkk.all [0,2] (by decide +kernel)
   simp at hh
   obtain ⟨u0,u2⟩:=hh
   have w1:IntKind.i64.wrap ((i:Int) + 1)=(i:Int) + 1:=wrap64 _ (by omega) (by omega)
   have w11:IntKind.i64.wrap 1=1:=wrap64 1 (by omega) (by omega)
   have him:i * bF ≤ 3 * bF:=Nat.mul_le_mul_right _ (by omega)
   rcases Nat.lt_or_ge i n with hlt | hge
   · rcases Nat.eq_zero_or_pos i with rfl | hi0
     · simp [ht,u0,u2,g3,show 0 < n by omega]
       obtain ⟨r,H2,e,r1,r3,h⟩:=callee_ok hE hN hl h hp0 hp3
       obtain ⟨s,hs,e2⟩:=itoa_ok hE r (by omega) (by omega) H2
       have f1:=fun a b=>bin_cat2 a b ⟨#[112]⟩ s (by rw [c1];omega)
       have f2:=fun a b=>bin_cat2 a b (⟨#[112]⟩ ++ s) ⟨#[40]⟩ (by rw [ByteArray.size_append,c1,c2];omega)
       simp [ht,u0,e,e2,f1,f2]
       refine gives_put hE h (s:=⟨#[112]⟩ ++ s ++ ⟨#[40]⟩) (by simp only [ByteArray.size_append,c1,c2];omega) (by omega) fun H3 h => ?_
       simp [ht,u0]
       refine gives_expr hE hN hl 1 (by omega) h hin rfl (by omega) fun H4 h => ?_
       simp [ht,u0]
       refine gives_put hE h (by decide) (by omega) fun H5 h => ?_
       simp [ht,u0]
       refine gives_next hE hN hl h (by omega) (by omega) fun r H6 r1 r3 h => ?_
       by_cases hr:0 < r
       · simp [ht,hr,u0]
         refine gives_put hE h (by decide) (by omega) fun H7 h => ?_
         simp [ht,u0]
         refine gives_next hE hN hl h (by omega) (by omega) fun r H8 r1 r3 h => ?_
         obtain ⟨s,hs,e2⟩:=itoa_ok hE (1 + r) (by omega) (by omega) H8
         simp [ht,wrap64 (1 + r) (by omega) (by omega),e2]
         refine gives_put hE h (by omega) (by omega) fun H9 h => ?_
         simp [ht,u0]
         refine gives_next hE hN hl h (by omega) (by omega) fun r H10 r1 r3 h => ?_
         by_cases hr:r=1
         · simp [ht,hr,u0]
           refine gives_put hE h (by decide) (by omega) fun H11 h => ?_
           simp [ht,g3,w1,w11]
           exact ⟨n - 1,by omega,1,by omega,rfl,by simp [ht],h.more (by omega)⟩
         · simp [hr,u0,ht,g3,w1,w11]
           exact ⟨n - 1,by omega,1,by omega,rfl,by simp [ht],h.more (by omega)⟩
       · simp [hr,u0,ht,g3,w1,w11]
         exact ⟨n - 1,by omega,1,by omega,rfl,by simp [ht],h.more (by omega)⟩
     · simp [ht,u0,u2,g3,hlt,hi0]
       refine gives_put hE h (by decide) (by omega) fun H1 h => ?_
       simp [ht,u0]
       obtain ⟨r,H2,e,r1,r3,h⟩:=callee_ok hE hN hl h hp0 hp3
       obtain ⟨s,hs,e2⟩:=itoa_ok hE r (by omega) (by omega) H2
       have f1:=fun a b=>bin_cat2 a b ⟨#[112]⟩ s (by rw [c1];omega)
       have f2:=fun a b=>bin_cat2 a b (⟨#[112]⟩ ++ s) ⟨#[40]⟩ (by rw [ByteArray.size_append,c1,c2];omega)
       simp [ht,u0,e,e2,f1,f2]
       refine gives_put hE h (s:=⟨#[112]⟩ ++ s ++ ⟨#[40]⟩) (by simp only [ByteArray.size_append,c1,c2];omega) (by omega) fun H3 h => ?_
       simp [ht,u0]
       refine gives_expr hE hN hl 1 (by omega) h hin rfl (by omega) fun H4 h => ?_
       simp [ht,u0]
       refine gives_put hE h (by decide) (by omega) fun H5 h => ?_
       simp [ht,u0]
       refine gives_next hE hN hl h (by omega) (by omega) fun r H6 r1 r3 h => ?_
       by_cases hr:0 < r
       · simp [ht,hr,u0]
         refine gives_put hE h (by decide) (by omega) fun H7 h => ?_
         simp [ht,u0]
         refine gives_next hE hN hl h (by omega) (by omega) fun r H8 r1 r3 h => ?_
         obtain ⟨s,hs,e2⟩:=itoa_ok hE (1 + r) (by omega) (by omega) H8
         simp [ht,wrap64 (1 + r) (by omega) (by omega),e2]
         refine gives_put hE h (by omega) (by omega) fun H9 h => ?_
         simp [ht,u0]
         refine gives_next hE hN hl h (by omega) (by omega) fun r H10 r1 r3 h => ?_
         by_cases hr:r=1
         · simp [ht,hr,u0]
           refine gives_put hE h (by decide) (by omega) fun H11 h => ?_
           simp [ht,g3,w1,w11]
           exact ⟨n - (i + 1),by omega,i + 1,by omega,rfl,by simp [ht],h.more (by rw [Nat.add_mul];omega)⟩
         · simp [hr,u0,ht,g3,w1,w11]
           exact ⟨n - (i + 1),by omega,i + 1,by omega,rfl,by simp [ht],h.more (by rw [Nat.add_mul];omega)⟩
       · simp [hr,u0,ht,g3,w1,w11]
         exact ⟨n - (i + 1),by omega,i + 1,by omega,rfl,by simp [ht],h.more (by rw [Nat.add_mul];omega)⟩
   · simp [ht,u2,g3,show ¬ i < n by omega]
     exact h.more (by omega)
 · rintro t K hkk h
   have ht:t.length=47:=hkk.1.trans (by simp [len_Bs])
   have hh:=hkk.all [0] (by decide +kernel)
   simp at hh
   simp [ht,hh]
   refine gives_put hE h (by decide) (by omega) fun H2 h => ?_
   simp
   exact k _ (h.more (by omega))
end
theorem MKx.turn {H0 H:Heap} {mid:Nat} {nv:Value} {N:List Int} {lo hi:Nat} {p:Int} {inn:ByteArray} (h:MKx H0 H mid nv N lo hi p inn):∃ (a:Nat) (left:Int) (b:Option Addr) (n:Nat),H.get mid = .row true 0 1 [nv,.int .i64 a,.slice b n n,.int .i64 p,.string inn,.int .i64 left] ∧
  ∀ (inn':ByteArray) (left':Int),MKx H0 (H.set mid (.row true 0 1 [nv,.int .i64 a,.slice b n n,.int .i64 p,.string inn',.int .i64 left'])) mid nv N lo hi p inn':=by
 obtain ⟨a,left,ov,out,hm⟩:=h
 obtain ⟨b,rfl⟩:=hm.go.slice
 exact ⟨a,left,b,out.length,hm.obj,fun inn' left'=>⟨a,left',_,out,MK.turn hm hm.ha p inn' left'⟩⟩
def bT:Nat→Nat
 | 0=>3 * bF + bC 1 + bE 2 + 2000
 | d + 1=>2 * (3 * (bT d + 40) + 40) + 3 * bF + bC 1 + bE 2 + 2000
def bS (d:Nat):Nat:=3 * (bT d + 40) + 40
def StmtOK (E:Hooks) (H0:Heap) (mid:Nat) (nv:Value) (N:List Int) (p:Int) (f:FuncId) (d b:Nat):Prop:=∀ {H:Heap} {lo hi:Nat} {inn:ByteArray} {Q:Out→Heap→Prop},MKx H0 H mid nv N lo hi p inn→InOK inn→hi + b ≤ 800000000 →
 (∀ H',MKx H0 H' mid nv N lo (hi + b) p inn→Q (.val (.tuple #[])) H')→Gives ((run Tryz.prog E).call f [.pointer (some ⟨mid,0,none⟩),.int .i64 (d:Int)] H) Q
def StI (H0:Heap) (mid:Nat) (nv:Value) (N:List Int) (lo hi:Nat) (p:Int) (inn:ByteArray) (B n:Nat) (m:Nat) (t:List Value) (K:Heap):Prop :=
 ∃ i:Nat,i ≤ n∧m=n - i∧rd t 5 = .int .i64 i∧MKx H0 K mid nv N lo (hi + i * B) p inn
section
variable {E:Hooks} (hE:Plain E) {H0:Heap} {mid:Nat} {nv:Value} {N:List Int} (hN:SL H0 nv N) (hl:N.length ≤ 100000)
include hE hN hl
theorem c_mstmts (args:List Value) (H:Heap):(run Tryz.prog E).call 30 args H=callB Tryz.prog E Tryz.f30 args H:=call_B Tryz.func30 rfl (by decide +kernel) (hE.no _ rfl rfl) args H
theorem c_mregion (args:List Value) (H:Heap):(run Tryz.prog E).call 93 args H=callB Tryz.prog E Tryz.f93 args H:=call_B Tryz.func93 rfl (by decide +kernel) (hE.no _ rfl rfl) args H
theorem stmts_of {p:Int} {d:Nat} (hst:StmtOK E H0 mid nv N p 67 d (bT d)):StmtOK E H0 mid nv N p 30 d (bS d):=by
 intro H lo hi inn Q h hin hb k
 rw [c_mstmts hE hN hl,callB,bodyOf]
 have hbS:bS d=3 * (bT d + 40) + 40:=rfl
 simp [Tryz.f30]
 refine gives_next hE hN hl h (by omega) (by omega) fun r H1 r1 r3 h => ?_
 obtain ⟨n,hn⟩:∃ n:Nat,1 + r=n:=⟨(1 + r).toNat,by omega⟩
 simp [wrap64 (1 + r) (by omega) (by omega)]
 rw [hn]
 refine loop_wp (StI H0 mid nv N lo hi p inn (bT d + 40) n) n ?_ ?_
 · exact ⟨0,Nat.zero_le _,by omega,by simp,h.more (by omega)⟩
 · rintro m t K hkk ⟨i,hi',rfl,g5,h⟩
   have ht:t.length=21:=hkk.1.trans (by simp [len_Bs])
   have hh:=hkk.all [0,1,4] (by decide +kernel)
   simp at hh
   obtain ⟨u0,u1,u4⟩:=hh
   have w1:IntKind.i64.wrap ((i:Int) + 1)=(i:Int) + 1:=wrap64 _ (by omega) (by omega)
   have w11:IntKind.i64.wrap 1=1:=wrap64 1 (by omega) (by omega)
   have him:i * (bT d + 40) ≤ 3 * (bT d + 40):=Nat.mul_le_mul_right _ (by omega)
   rcases Nat.lt_or_ge i n with hlt | hge
   · have him2:i * (bT d + 40) ≤ 2 * (bT d + 40):=Nat.mul_le_mul_right _ (by omega)
     rcases Nat.eq_zero_or_pos i with rfl | hi0
     · simp [ht,u0,u1,u4,g5,show 0 < n by omega]
       refine hst h hin (by omega) fun H2 h => ?_
       simp [ht,g5,w11]
       exact ⟨n - 1,by omega,1,by omega,rfl,by simp [ht],h.more (by omega)⟩
     · simp [ht,u0,u1,u4,g5,hlt,hi0]
       refine gives_put hE h (by decide) (by omega) fun H1 h => ?_
       simp [ht,u0,u1]
       refine hst h hin (by omega) fun H2 h => ?_
       simp [ht,g5,w1]
       exact ⟨n - (i + 1),by omega,i + 1,by omega,rfl,by simp [ht],h.more (by rw [Nat.add_mul];omega)⟩
   · simp [ht,u4,g5,show ¬ i < n by omega]
     exact k _ (h.more (by omega))
theorem region_of {p:Int} {e:Nat} (he:e ≤ 3) (hrec:StmtOK E H0 mid nv N p 30 e (bS e)):StmtOK E H0 mid nv N p 93 (e + 1) (bS e + 800):=by
 intro H lo hi inn Q h hin hb k
 rw [c_mregion hE hN hl,callB,bodyOf]
 have w1:IntKind.i64.wrap (e:Int)=e:=wrap64 _ (by omega) (by omega)
 obtain ⟨a0,left0,b0,n0,o0,_⟩:=h.turn
 simp [Tryz.f93,o0]
 refine gives_next hE hN hl h (by omega) (by omega) fun r H1 h3 h4 h => ?_
 obtain ⟨a,left,b,n,o1,ht⟩:=h.turn
 have e2:∀ (j:Int) (v:ByteArray),j=0∧v=⟨#[118]⟩∨j=1∧v=⟨#[119]⟩→idxA Tryz.prog 139 (some (.agg ⟨[.string ⟨#[118]⟩,.string ⟨#[119]⟩]⟩)) (some (.int .i64 j)) H1=some (.val (.string v),H1):=by
  rintro j v (⟨rfl,rfl⟩ | ⟨rfl,rfl⟩)
  · exact idxA_arr Tryz.underlying139 (by simp) (by simp) (by omega) (by omega) rfl H1
  · exact idxA_arr Tryz.underlying139 (by simp) (by simp) (by omega) (by omega) rfl H1
 have f1:=fun a b=>bin_cat2 a b ⟨#[114,101,103,105,111,110,32]⟩ ⟨#[118]⟩ (by decide)
 have f2:=fun a b=>bin_cat2 a b ⟨#[114,101,103,105,111,110,32]⟩ ⟨#[119]⟩ (by decide)
 rcases (show r=0∨r=1 by omega) with rfl | rfl
 · have ev:=e2 0 ⟨#[118]⟩ (.inl ⟨rfl,rfl⟩)
   rcases hin with rfl | rfl | rfl
   · simp [ev,f1]
     simp [o1,f1,f2]
     refine gives_put hE (ht ⟨#[118]⟩ left) (s:=⟨#[114,101,103,105,111,110,32]⟩ ++ ⟨#[118]⟩) (by decide) (by omega) fun H3 h => ?_
     simp
     refine gives_next hE hN hl h (by omega) (by omega) fun r H4 h3 h4 h => ?_
     by_cases hr:r=1
     · simp [hr]
       refine gives_put hE h (by decide) (by omega) fun H5 h => ?_
       simp
       refine gives_wait hE hN hl h (by unfold InOK;simp) (by omega) fun H6 h => ?_
       simp
       refine gives_put hE h (by decide) (by omega) fun H7 h => ?_
       simp
       refine gives_put hE h (by decide) (by omega) fun H8 h => ?_
       simp [w1]
       refine hrec h (by unfold InOK;simp) (by omega) fun H9 h => ?_
       simp
       refine gives_put hE h (by decide) (by omega) fun H10 h => ?_
       obtain ⟨a',left',b',n',o2,ht2⟩:=h.turn
       simp [o2]
       exact k _ ((ht2 ByteArray.empty left').more (by omega))
     · simp [hr]
       refine gives_put hE h (by decide) (by omega) fun H7 h => ?_
       simp
       refine gives_put hE h (by decide) (by omega) fun H8 h => ?_
       simp [w1]
       refine hrec h (by unfold InOK;simp) (by omega) fun H9 h => ?_
       simp
       refine gives_put hE h (by decide) (by omega) fun H10 h => ?_
       obtain ⟨a',left',b',n',o2,ht2⟩:=h.turn
       simp [o2]
       exact k _ ((ht2 ByteArray.empty left').more (by omega))
   · simp [ev]
     refine gives_put hE h (by decide) (by omega) fun H3 h => ?_
     simp
     exact k _ (h.more (by omega))
   · simp [ev]
     refine gives_put hE h (by decide) (by omega) fun H3 h => ?_
     simp
     exact k _ (h.more (by omega))
 · have ev:=e2 1 ⟨#[119]⟩ (.inr ⟨rfl,rfl⟩)
   rcases hin with rfl | rfl | rfl
   · simp [ev,f2]
     simp [o1,f1,f2]
     refine gives_put hE (ht ⟨#[119]⟩ left) (s:=⟨#[114,101,103,105,111,110,32]⟩ ++ ⟨#[119]⟩) (by decide) (by omega) fun H3 h => ?_
     simp
     refine gives_next hE hN hl h (by omega) (by omega) fun r H4 h3 h4 h => ?_
     by_cases hr:r=1
     · simp [hr]
       refine gives_put hE h (by decide) (by omega) fun H5 h => ?_
       simp
       refine gives_wait hE hN hl h (by unfold InOK;simp) (by omega) fun H6 h => ?_
       simp
       refine gives_put hE h (by decide) (by omega) fun H7 h => ?_
       simp
       refine gives_put hE h (by decide) (by omega) fun H8 h => ?_
       simp [w1]
       refine hrec h (by unfold InOK;simp) (by omega) fun H9 h => ?_
       simp
       refine gives_put hE h (by decide) (by omega) fun H10 h => ?_
       obtain ⟨a',left',b',n',o2,ht2⟩:=h.turn
       simp [o2]
       exact k _ ((ht2 ByteArray.empty left').more (by omega))
     · simp [hr]
       refine gives_put hE h (by decide) (by omega) fun H7 h => ?_
       simp
       refine gives_put hE h (by decide) (by omega) fun H8 h => ?_
       simp [w1]
       refine hrec h (by unfold InOK;simp) (by omega) fun H9 h => ?_
       simp
       refine gives_put hE h (by decide) (by omega) fun H10 h => ?_
       obtain ⟨a',left',b',n',o2,ht2⟩:=h.turn
       simp [o2]
       exact k _ ((ht2 ByteArray.empty left').more (by omega))
   · simp [ev]
     refine gives_put hE h (by decide) (by omega) fun H3 h => ?_
     simp
     exact k _ (h.more (by omega))
   · simp [ev]
     refine gives_put hE h (by decide) (by omega) fun H3 h => ?_
     simp
     exact k _ (h.more (by omega))
end
def SJ0 (H0:Heap) (mid:Nat) (nv:Value) (N:List Int) (lo hi:Nat) (p:Int) (inn:ByteArray) (d:Nat) (t:List Value) (K:Heap):Prop :=
 t.length=198∧rd t 0 = .pointer (some ⟨mid,0,none⟩)∧rd t 1 = .int .i64 (d:Int)∧MKx H0 K mid nv N lo hi p inn
def SJ1 (H0:Heap) (mid:Nat) (nv:Value) (N:List Int) (lo hi:Nat) (p:Int) (inn:ByteArray) (d:Nat) (t:List Value) (K:Heap):Prop :=
 t.length=198∧rd t 0 = .pointer (some ⟨mid,0,none⟩)∧rd t 1 = .int .i64 (d:Int)∧(∃ r:Int,rd t 4 = .int .i64 r∧0 ≤ r∧r < 20)∧MKx H0 K mid nv N lo hi p inn
def SJ2 (H0:Heap) (mid:Nat) (nv:Value) (N:List Int) (lo hi:Nat) (p:Int) (inn:ByteArray) (d:Nat) (t:List Value) (K:Heap):Prop :=
 t.length=198∧rd t 0 = .pointer (some ⟨mid,0,none⟩)∧rd t 1 = .int .i64 (d:Int)∧(∃ r:Int,rd t 4 = .int .i64 r∧0 ≤ r∧r < 20∧(r=2∨r=3∨r=5∨14 ≤ r→1 ≤ d))∧MKx H0 K mid nv N lo hi p inn
section
variable {E:Hooks} (hE:Plain E) {H0:Heap} {mid:Nat} {nv:Value} {N:List Int} (hN:SL H0 nv N) (hl:N.length ≤ 100000)
include hE hN hl
theorem c_mstmt (args:List Value) (H:Heap):(run Tryz.prog E).call 67 args H=callB Tryz.prog E Tryz.f67 args H:=call_B Tryz.func67 rfl (by decide +kernel) (hE.no _ rfl rfl) args H
theorem stmt_of {p:Int} (hp0:0 ≤ p) (hp3:p ≤ 3) {d:Nat} (hd:d ≤ 3) (hrec:∀ e,d=e + 1→StmtOK E H0 mid nv N p 30 e (bS e)):StmtOK E H0 mid nv N p 67 d (bT d):=by
 intro H lo hi inn Q h hin hb k
 have hbT:3 * bF + bC 1 + bE 2 + 2000 ≤ bT d:=by
  cases d with
  | zero=>exact Nat.le_refl _
  | succ d =>
   show _ ≤ 2 * (3 * (bT d + 40) + 40) + 3 * bF + bC 1 + bE 2 + 2000
   omega
 have hb1:bE 1 ≤ bE 2:=by decide
 have c1:(⟨#[112]⟩:ByteArray).size=1:=rfl
 have c2:(⟨#[40]⟩:ByteArray).size=1:=rfl
 rw [c_mstmt hE hN hl,callB,bodyOf]
 simp only [Tryz.f67,gives_body]
 rw [code_seq,ends_then]
 refine ends_cut (SJ0 H0 mid nv N lo hi p inn d) ?_ ?_
 · obtain ⟨a,left,b,n,o1,ht⟩:=h.turn
   simp [o1,len_Bs]
   exact ⟨by simp [len_Bs],by simp [len_Bs],by simp [len_Bs],ht inn _⟩
 clear h
 rintro t K ⟨ht,u0,u1,h⟩
 rw [code_seq,ends_then]
 refine ends_cut (SJ1 H0 mid nv N lo hi p inn d) ?_ ?_
 · simp [ht,u0]
   refine gives_next hE hN hl h (by omega) (by omega) fun r H1 r1 r3 h => ?_
   simp [ht]
   exact ⟨by simp [ht],by simp [ht,u0],by simp [ht,u1],⟨r,by simp [ht],r1,r3⟩,h⟩
 clear u0 u1 ht h
 rintro t K ⟨ht,u0,u1,⟨r,u4,r1,r3⟩,h⟩
 rw [code_seq,ends_then]
 refine ends_cut (SJ2 H0 mid nv N lo hi p inn d) ?_ ?_
 · obtain ⟨a,left,b,n,o1⟩:=h.row
   rcases Nat.eq_zero_or_pos d with rfl | hd0
   · rcases (show r=0∨r=1∨r=2∨r=3∨r=4∨r=5∨r=6∨r=7∨r=8∨r=9∨r=10∨r=11∨r=12∨r=13∨r=14∨r=15∨r=16∨r=17∨r=18∨r=19 by omega) with rfl | rfl | rfl | rfl | rfl | rfl | rfl | rfl | rfl | rfl | rfl | rfl | rfl | rfl | rfl | rfl | rfl | rfl | rfl | rfl
     · simp [ht,u0,u1,u4]
       exact ⟨by simp [ht],by simp [ht,u0],by simp [ht,u1],⟨0,by simp [ht,u4],by omega,by omega,by omega⟩,h⟩
     · simp [ht,u0,u1,u4]
       exact ⟨by simp [ht],by simp [ht,u0],by simp [ht,u1],⟨1,by simp [ht,u4],by omega,by omega,by omega⟩,h⟩
     · simp [ht,u0,u1,u4]
       exact ⟨by simp [ht],by simp [ht,u0],by simp [ht,u1],⟨12,by simp [ht],by omega,by omega,by omega⟩,h⟩
     · simp [ht,u0,u1,u4]
       exact ⟨by simp [ht],by simp [ht,u0],by simp [ht,u1],⟨12,by simp [ht],by omega,by omega,by omega⟩,h⟩
     · simp [ht,u0,u1,u4]
       exact ⟨by simp [ht],by simp [ht,u0],by simp [ht,u1],⟨4,by simp [ht,u4],by omega,by omega,by omega⟩,h⟩
     · simp [ht,u0,u1,u4]
       exact ⟨by simp [ht],by simp [ht,u0],by simp [ht,u1],⟨12,by simp [ht],by omega,by omega,by omega⟩,h⟩
     · simp [ht,u0,u1,u4]
       exact ⟨by simp [ht],by simp [ht,u0],by simp [ht,u1],⟨6,by simp [ht,u4],by omega,by omega,by omega⟩,h⟩
     · simp [ht,u0,u1,u4]
       exact ⟨by simp [ht],by simp [ht,u0],by simp [ht,u1],⟨7,by simp [ht,u4],by omega,by omega,by omega⟩,h⟩
     · simp [ht,u0,u1,u4]
       exact ⟨by simp [ht],by simp [ht,u0],by simp [ht,u1],⟨8,by simp [ht,u4],by omega,by omega,by omega⟩,h⟩
     · simp [ht,u0,u1,u4]
       exact ⟨by simp [ht],by simp [ht,u0],by simp [ht,u1],⟨9,by simp [ht,u4],by omega,by omega,by omega⟩,h⟩
     · simp [ht,u0,u1,u4]
       exact ⟨by simp [ht],by simp [ht,u0],by simp [ht,u1],⟨10,by simp [ht,u4],by omega,by omega,by omega⟩,h⟩
     · simp [ht,u0,u1,u4]
       exact ⟨by simp [ht],by simp [ht,u0],by simp [ht,u1],⟨11,by simp [ht,u4],by omega,by omega,by omega⟩,h⟩
     · simp [ht,u0,u1,u4]
       exact ⟨by simp [ht],by simp [ht,u0],by simp [ht,u1],⟨12,by simp [ht,u4],by omega,by omega,by omega⟩,h⟩
     · simp [ht,u0,u1,u4]
       exact ⟨by simp [ht],by simp [ht,u0],by simp [ht,u1],⟨13,by simp [ht,u4],by omega,by omega,by omega⟩,h⟩
     · simp [ht,u0,u1,u4]
       exact ⟨by simp [ht],by simp [ht,u0],by simp [ht,u1],⟨12,by simp [ht],by omega,by omega,by omega⟩,h⟩
     · simp [ht,u0,u1,u4]
       exact ⟨by simp [ht],by simp [ht,u0],by simp [ht,u1],⟨12,by simp [ht],by omega,by omega,by omega⟩,h⟩
     · simp [ht,u0,u1,u4]
       exact ⟨by simp [ht],by simp [ht,u0],by simp [ht,u1],⟨12,by simp [ht],by omega,by omega,by omega⟩,h⟩
     · simp [ht,u0,u1,u4]
       exact ⟨by simp [ht],by simp [ht,u0],by simp [ht,u1],⟨12,by simp [ht],by omega,by omega,by omega⟩,h⟩
     · simp [ht,u0,u1,u4]
       exact ⟨by simp [ht],by simp [ht,u0],by simp [ht,u1],⟨12,by simp [ht],by omega,by omega,by omega⟩,h⟩
     · simp [ht,u0,u1,u4]
       exact ⟨by simp [ht],by simp [ht,u0],by simp [ht,u1],⟨12,by simp [ht],by omega,by omega,by omega⟩,h⟩
   · have hd1:¬ d=0:=by omega
     by_cases hlf:left < 0
     · rcases (show r=0∨r=1∨r=2∨r=3∨r=4∨r=5∨r=6∨r=7∨r=8∨r=9∨r=10∨r=11∨r=12∨r=13∨r=14∨r=15∨r=16∨r=17∨r=18∨r=19 by omega) with rfl | rfl | rfl | rfl | rfl | rfl | rfl | rfl | rfl | rfl | rfl | rfl | rfl | rfl | rfl | rfl | rfl | rfl | rfl | rfl
       · simp [ht,u0,u1,u4,o1,hd1,hlf]
         exact ⟨by simp [ht],by simp [ht,u0],by simp [ht,u1],⟨0,by simp [ht,u4],by omega,by omega,by omega⟩,h⟩
       · simp [ht,u0,u1,u4,o1,hd1,hlf]
         exact ⟨by simp [ht],by simp [ht,u0],by simp [ht,u1],⟨1,by simp [ht,u4],by omega,by omega,by omega⟩,h⟩
       · simp [ht,u0,u1,u4,o1,hd1,hlf]
         exact ⟨by simp [ht],by simp [ht,u0],by simp [ht,u1],⟨12,by simp [ht],by omega,by omega,by omega⟩,h⟩
       · simp [ht,u0,u1,u4,o1,hd1,hlf]
         exact ⟨by simp [ht],by simp [ht,u0],by simp [ht,u1],⟨12,by simp [ht],by omega,by omega,by omega⟩,h⟩
       · simp [ht,u0,u1,u4,o1,hd1,hlf]
         exact ⟨by simp [ht],by simp [ht,u0],by simp [ht,u1],⟨4,by simp [ht,u4],by omega,by omega,by omega⟩,h⟩
       · simp [ht,u0,u1,u4,o1,hd1,hlf]
         exact ⟨by simp [ht],by simp [ht,u0],by simp [ht,u1],⟨12,by simp [ht],by omega,by omega,by omega⟩,h⟩
       · simp [ht,u0,u1,u4,o1,hd1,hlf]
         exact ⟨by simp [ht],by simp [ht,u0],by simp [ht,u1],⟨6,by simp [ht,u4],by omega,by omega,by omega⟩,h⟩
       · simp [ht,u0,u1,u4,o1,hd1,hlf]
         exact ⟨by simp [ht],by simp [ht,u0],by simp [ht,u1],⟨7,by simp [ht,u4],by omega,by omega,by omega⟩,h⟩
       · simp [ht,u0,u1,u4,o1,hd1,hlf]
         exact ⟨by simp [ht],by simp [ht,u0],by simp [ht,u1],⟨8,by simp [ht,u4],by omega,by omega,by omega⟩,h⟩
       · simp [ht,u0,u1,u4,o1,hd1,hlf]
         exact ⟨by simp [ht],by simp [ht,u0],by simp [ht,u1],⟨9,by simp [ht,u4],by omega,by omega,by omega⟩,h⟩
       · simp [ht,u0,u1,u4,o1,hd1,hlf]
         exact ⟨by simp [ht],by simp [ht,u0],by simp [ht,u1],⟨10,by simp [ht,u4],by omega,by omega,by omega⟩,h⟩
       · simp [ht,u0,u1,u4,o1,hd1,hlf]
         exact ⟨by simp [ht],by simp [ht,u0],by simp [ht,u1],⟨11,by simp [ht,u4],by omega,by omega,by omega⟩,h⟩
       · simp [ht,u0,u1,u4,o1,hd1,hlf]
         exact ⟨by simp [ht],by simp [ht,u0],by simp [ht,u1],⟨12,by simp [ht,u4],by omega,by omega,by omega⟩,h⟩
       · simp [ht,u0,u1,u4,o1,hd1,hlf]
         exact ⟨by simp [ht],by simp [ht,u0],by simp [ht,u1],⟨13,by simp [ht,u4],by omega,by omega,by omega⟩,h⟩
       · simp [ht,u0,u1,u4,o1,hd1,hlf]
         exact ⟨by simp [ht],by simp [ht,u0],by simp [ht,u1],⟨12,by simp [ht],by omega,by omega,by omega⟩,h⟩
       · simp [ht,u0,u1,u4,o1,hd1,hlf]
         exact ⟨by simp [ht],by simp [ht,u0],by simp [ht,u1],⟨12,by simp [ht],by omega,by omega,by omega⟩,h⟩
       · simp [ht,u0,u1,u4,o1,hd1,hlf]
         exact ⟨by simp [ht],by simp [ht,u0],by simp [ht,u1],⟨12,by simp [ht],by omega,by omega,by omega⟩,h⟩
       · simp [ht,u0,u1,u4,o1,hd1,hlf]
         exact ⟨by simp [ht],by simp [ht,u0],by simp [ht,u1],⟨12,by simp [ht],by omega,by omega,by omega⟩,h⟩
       · simp [ht,u0,u1,u4,o1,hd1,hlf]
         exact ⟨by simp [ht],by simp [ht,u0],by simp [ht,u1],⟨12,by simp [ht],by omega,by omega,by omega⟩,h⟩
       · simp [ht,u0,u1,u4,o1,hd1,hlf]
         exact ⟨by simp [ht],by simp [ht,u0],by simp [ht,u1],⟨12,by simp [ht],by omega,by omega,by omega⟩,h⟩
     · simp [ht,u0,u1,u4,o1,hd1,hlf]
       exact ⟨by simp [ht],by simp [ht,u0],by simp [ht,u1],⟨r,by simp [ht,u4],r1,r3,fun _=>hd0⟩,h⟩
 clear u0 u1 u4 ht h r1 r3
 clear r
 rintro t K ⟨ht,u0,u1,⟨r,u4,r1,r3,hk⟩,h⟩
 rcases (show r=0∨r=1∨r=2∨r=3∨r=4∨r=5∨r=6∨r=7∨r=8∨r=9∨r=10∨r=11∨r=12∨r=13∨r=14∨r=15∨r=16∨r=17∨r=18∨r=19 by omega) with rfl | rfl | rfl | rfl | rfl | rfl | rfl | rfl | rfl | rfl | rfl | rfl | rfl | rfl | rfl | rfl | rfl | rfl | rfl | rfl
 · simp [ht,u0,u4]
   refine gives_put hE h (by decide) (by omega) fun _ h => ?_
   simp [ht,u0]
   exact k _ (h.more (by omega))
 · simp [ht,u0,u4]
   refine gives_put hE h (by decide) (by omega) fun _ h => ?_
   simp [ht,u0]
   refine gives_expr hE hN hl 2 (by omega) h hin rfl (by omega) fun _ h => ?_
   simp [ht,u0]
   exact k _ (h.more (by omega))
 · obtain ⟨e,rfl⟩:∃ e,d=e + 1:=⟨d - 1,by have:=hk (by omega);omega⟩
   change hi + (2 * (3 * (bT e + 40) + 40) + 3 * bF + bC 1 + bE 2 + 2000) ≤ 800000000 at hb
   change ∀ H',MKx H0 H' mid nv N lo (hi + (2 * (3 * (bT e + 40) + 40) + 3 * bF + bC 1 + bE 2 + 2000)) p inn→Q (.val (.tuple #[])) H' at k
   have hbS:bS e=3 * (bT e + 40) + 40:=rfl
   have w1:IntKind.i64.wrap (e:Int)=e:=wrap64 _ (by omega) (by omega)
   simp only [Int.natCast_add,Int.natCast_one,Int.natCast_succ] at u1
   simp [ht,u0,u4]
   refine gives_put hE h (by decide) (by omega) fun _ h => ?_
   simp [ht,u0]
   refine gives_cond hE hN hl 1 (by omega) h hin rfl (by omega) fun _ h => ?_
   simp [ht,u0]
   refine gives_put hE h (by decide) (by omega) fun _ h => ?_
   simp [ht,u0,u1,w1]
   refine hrec e rfl h hin (by omega) fun _ h => ?_
   simp [ht,u0]
   refine gives_next hE hN hl h (by omega) (by omega) fun r _ r1 r2 h => ?_
   by_cases hr:r=1
   · simp [ht,u0,hr]
     refine gives_put hE h (by decide) (by omega) fun _ h => ?_
     simp [ht,u0,u1,w1]
     refine hrec e rfl h hin (by omega) fun _ h => ?_
     simp [ht,u0]
     refine gives_put hE h (by decide) (by omega) fun _ h => ?_
     simp [ht,u0]
     exact k _ (h.more (by omega))
   · simp [ht,u0,hr]
     refine gives_put hE h (by decide) (by omega) fun _ h => ?_
     simp [ht,u0]
     exact k _ (h.more (by omega))
 · obtain ⟨e,rfl⟩:∃ e,d=e + 1:=⟨d - 1,by have:=hk (by omega);omega⟩
   change hi + (2 * (3 * (bT e + 40) + 40) + 3 * bF + bC 1 + bE 2 + 2000) ≤ 800000000 at hb
   change ∀ H',MKx H0 H' mid nv N lo (hi + (2 * (3 * (bT e + 40) + 40) + 3 * bF + bC 1 + bE 2 + 2000)) p inn→Q (.val (.tuple #[])) H' at k
   have hbS:bS e=3 * (bT e + 40) + 40:=rfl
   have w1:IntKind.i64.wrap (e:Int)=e:=wrap64 _ (by omega) (by omega)
   simp only [Int.natCast_add,Int.natCast_one,Int.natCast_succ] at u1
   simp [ht,u0,u4]
   refine gives_put hE h (by decide) (by omega) fun _ h => ?_
   simp [ht,u0]
   refine gives_num hE hN hl h (by omega) (by omega) (by omega) fun _ h => ?_
   simp [ht,u0]
   refine gives_put hE h (by decide) (by omega) fun _ h => ?_
   simp [ht,u0,u1,w1]
   refine hrec e rfl h hin (by omega) fun _ h => ?_
   simp [ht,u0]
   refine gives_put hE h (by decide) (by omega) fun _ h => ?_
   simp [ht,u0]
   exact k _ (h.more (by omega))
 · simp [ht,u0,u4]
   refine gives_put hE h (by decide) (by omega) fun _ h => ?_
   simp [ht,u0]
   refine gives_num hE hN hl h (by omega) (by omega) (by omega) fun _ h => ?_
   simp [ht,u0]
   refine gives_put hE h (by decide) (by omega) fun _ h => ?_
   simp [ht,u0]
   refine gives_expr hE hN hl 1 (by omega) h hin rfl (by omega) fun _ h => ?_
   simp [ht,u0]
   exact k _ (h.more (by omega))
 · obtain ⟨a,left,b,n,o1⟩:=h.row
   by_cases hp:p=3
   · simp [ht,u0,u4,o1,hp]
     refine gives_next hE hN hl h (by omega) (by omega) fun r _ r1 r2 h => ?_
     by_cases hr:0 < r
     · simp [ht,u0,hr]
       refine gives_put hE h (by decide) (by omega) fun _ h => ?_
       simp [ht,u0]
       exact k _ (h.more (by omega))
     · simp [ht,u0,hr]
       obtain ⟨r,H2,e1,r1,r3,h⟩:=callee_ok hE hN hl h hp0 hp3
       obtain ⟨s,hs,e2⟩:=itoa_ok hE r (by omega) (by omega) H2
       have f1:=fun a b=>bin_cat2 a b ⟨#[112]⟩ s (by rw [c1];omega)
       have f2:=fun a b=>bin_cat2 a b (⟨#[112]⟩ ++ s) ⟨#[40]⟩ (by rw [ByteArray.size_append,c1,c2];omega)
       simp [ht,u0,e1,e2,f1,f2]
       refine gives_put hE h (s:=⟨#[112]⟩ ++ s ++ ⟨#[40]⟩) (by simp only [ByteArray.size_append,c1,c2];omega) (by omega) fun _ h => ?_
       simp [ht,u0]
       refine gives_expr hE hN hl 1 (by omega) h hin rfl (by omega) fun _ h => ?_
       simp [ht,u0]
       refine gives_put hE h (by decide) (by omega) fun _ h => ?_
       simp [ht,u0]
       exact k _ (h.more (by omega))
   · simp [ht,u0,u4,o1,hp]
     obtain ⟨r,H2,e1,r1,r3,h⟩:=callee_ok hE hN hl h hp0 hp3
     obtain ⟨s,hs,e2⟩:=itoa_ok hE r (by omega) (by omega) H2
     have f1:=fun a b=>bin_cat2 a b ⟨#[112]⟩ s (by rw [c1];omega)
     have f2:=fun a b=>bin_cat2 a b (⟨#[112]⟩ ++ s) ⟨#[40]⟩ (by rw [ByteArray.size_append,c1,c2];omega)
     simp [ht,u0,e1,e2,f1,f2]
     refine gives_put hE h (s:=⟨#[112]⟩ ++ s ++ ⟨#[40]⟩) (by simp only [ByteArray.size_append,c1,c2];omega) (by omega) fun _ h => ?_
     simp [ht,u0]
     refine gives_expr hE hN hl 1 (by omega) h hin rfl (by omega) fun _ h => ?_
     simp [ht,u0]
     refine gives_put hE h (by decide) (by omega) fun _ h => ?_
     simp [ht,u0]
     exact k _ (h.more (by omega))
 · simp [ht,u0,u4]
   refine gives_put hE h (by decide) (by omega) fun _ h => ?_
   simp [ht,u0]
   exact k _ (h.more (by omega))
 · simp [ht,u0,u4]
   refine gives_put hE h (by decide) (by omega) fun _ h => ?_
   simp [ht,u0]
   exact k _ (h.more (by omega))
 · simp [ht,u0,u4]
   refine gives_put hE h (by decide) (by omega) fun _ h => ?_
   simp [ht,u0]
   refine gives_items hE hN hl h (by omega) fun _ h => ?_
   simp [ht,u0]
   exact k _ (h.more (by omega))
 · simp [ht,u0,u4]
   refine gives_put hE h (by decide) (by omega) fun _ h => ?_
   simp [ht,u0]
   refine gives_items hE hN hl h (by omega) fun _ h => ?_
   simp [ht,u0]
   exact k _ (h.more (by omega))
 · simp [ht,u0,u4]
   refine gives_put hE h (by decide) (by omega) fun _ h => ?_
   simp [ht,u0]
   refine gives_items hE hN hl h (by omega) fun _ h => ?_
   simp [ht,u0]
   exact k _ (h.more (by omega))
 · simp [ht,u0,u4]
   refine gives_put hE h (by decide) (by omega) fun _ h => ?_
   simp [ht,u0]
   refine gives_next hE hN hl h (by omega) (by omega) fun r _ r1 r2 h => ?_
   simp [ht,u0]
   refine gives_idx2 (by decide) (by decide) (by omega) (by omega) fun s hs => ?_
   simp [ht,u0]
   refine gives_put hE h hs (by omega) fun _ h => ?_
   simp [ht,u0]
   exact k _ (h.more (by omega))
 · simp [ht,u0,u4]
   refine gives_put hE h (by decide) (by omega) fun _ h => ?_
   simp [ht,u0]
   refine gives_expr hE hN hl 2 (by omega) h hin rfl (by omega) fun _ h => ?_
   simp [ht,u0]
   exact k _ (h.more (by omega))
 · simp [ht,u0,u4]
   refine gives_put hE h (by decide) (by omega) fun _ h => ?_
   simp [ht,u0]
   refine gives_expr hE hN hl 2 (by omega) h hin rfl (by omega) fun _ h => ?_
   simp [ht,u0]
   exact k _ (h.more (by omega))
 · obtain ⟨e,rfl⟩:∃ e,d=e + 1:=⟨d - 1,by have:=hk (by omega);omega⟩
   change hi + (2 * (3 * (bT e + 40) + 40) + 3 * bF + bC 1 + bE 2 + 2000) ≤ 800000000 at hb
   change ∀ H',MKx H0 H' mid nv N lo (hi + (2 * (3 * (bT e + 40) + 40) + 3 * bF + bC 1 + bE 2 + 2000)) p inn→Q (.val (.tuple #[])) H' at k
   have hbS:bS e=3 * (bT e + 40) + 40:=rfl
   have w1:IntKind.i64.wrap (e:Int)=e:=wrap64 _ (by omega) (by omega)
   simp only [Int.natCast_add,Int.natCast_one,Int.natCast_succ] at u1
   simp [ht,u0,u1,u4]
   refine region_of hE hN hl (by omega) (hrec e rfl) h hin (by omega) fun _ h => ?_
   simp [ht,u0]
   exact k _ (h.more (by omega))
 · obtain ⟨e,rfl⟩:∃ e,d=e + 1:=⟨d - 1,by have:=hk (by omega);omega⟩
   change hi + (2 * (3 * (bT e + 40) + 40) + 3 * bF + bC 1 + bE 2 + 2000) ≤ 800000000 at hb
   change ∀ H',MKx H0 H' mid nv N lo (hi + (2 * (3 * (bT e + 40) + 40) + 3 * bF + bC 1 + bE 2 + 2000)) p inn→Q (.val (.tuple #[])) H' at k
   have hbS:bS e=3 * (bT e + 40) + 40:=rfl
   have w1:IntKind.i64.wrap (e:Int)=e:=wrap64 _ (by omega) (by omega)
   simp only [Int.natCast_add,Int.natCast_one,Int.natCast_succ] at u1
   simp [ht,u0,u1,u4]
   refine region_of hE hN hl (by omega) (hrec e rfl) h hin (by omega) fun _ h => ?_
   simp [ht,u0]
   exact k _ (h.more (by omega))
 · obtain ⟨a,left,b,n,o1⟩:=h.row
   by_cases hp:p=3
   · rcases hin with rfl | rfl | rfl
     all_goals
      simp [ht,u0,u4,o1,hp]
      refine gives_put hE h (by decide) (by omega) fun _ h => ?_
      simp [ht,u0]
      exact k _ (h.more (by omega))
   · rcases hin with rfl | rfl | rfl
     · simp [ht,u0,u4,o1,hp]
       refine gives_fork hE hN hl h (by unfold InOK;simp) hp0 hp3 (by omega) fun _ h => ?_
       simp
       exact k _ (h.more (by omega))
     · simp [ht,u0,u4,o1,hp]
       refine gives_put hE h (by decide) (by omega) fun _ h => ?_
       simp [ht,u0]
       exact k _ (h.more (by omega))
     · simp [ht,u0,u4,o1,hp]
       refine gives_put hE h (by decide) (by omega) fun _ h => ?_
       simp [ht,u0]
       exact k _ (h.more (by omega))
 · obtain ⟨a,left,b,n,o1⟩:=h.row
   by_cases hp:p=3
   · rcases hin with rfl | rfl | rfl
     all_goals
      simp [ht,u0,u4,o1,hp]
      refine gives_put hE h (by decide) (by omega) fun _ h => ?_
      simp [ht,u0]
      exact k _ (h.more (by omega))
   · rcases hin with rfl | rfl | rfl
     · simp [ht,u0,u4,o1,hp]
       refine gives_fork hE hN hl h (by unfold InOK;simp) hp0 hp3 (by omega) fun _ h => ?_
       simp
       exact k _ (h.more (by omega))
     · simp [ht,u0,u4,o1,hp]
       refine gives_put hE h (by decide) (by omega) fun _ h => ?_
       simp [ht,u0]
       exact k _ (h.more (by omega))
     · simp [ht,u0,u4,o1,hp]
       refine gives_put hE h (by decide) (by omega) fun _ h => ?_
       simp [ht,u0]
       exact k _ (h.more (by omega))
 · obtain ⟨e,rfl⟩:∃ e,d=e + 1:=⟨d - 1,by have:=hk (by omega);omega⟩
   change hi + (2 * (3 * (bT e + 40) + 40) + 3 * bF + bC 1 + bE 2 + 2000) ≤ 800000000 at hb
   change ∀ H',MKx H0 H' mid nv N lo (hi + (2 * (3 * (bT e + 40) + 40) + 3 * bF + bC 1 + bE 2 + 2000)) p inn→Q (.val (.tuple #[])) H' at k
   have hbS:bS e=3 * (bT e + 40) + 40:=rfl
   have w1:IntKind.i64.wrap (e:Int)=e:=wrap64 _ (by omega) (by omega)
   simp only [Int.natCast_add,Int.natCast_one,Int.natCast_succ] at u1
   simp [ht,u0,u4]
   refine gives_put hE h (by decide) (by omega) fun _ h => ?_
   simp [ht,u0]
   refine gives_items hE hN hl h (by omega) fun _ h => ?_
   simp [ht,u0]
   refine gives_put hE h (by decide) (by omega) fun _ h => ?_
   simp [ht,u0,u1,w1]
   refine hrec e rfl h hin (by omega) fun _ h => ?_
   simp [ht,u0]
   refine gives_put hE h (by decide) (by omega) fun _ h => ?_
   simp [ht,u0]
   exact k _ (h.more (by omega))
 · obtain ⟨a,left,b,n,o1⟩:=h.row
   by_cases hp:p=3
   · simp [ht,u0,u4,o1,hp]
     refine gives_next hE hN hl h (by omega) (by omega) fun r _ r1 r2 h => ?_
     by_cases hr:0 < r
     · simp [ht,u0,hr]
       refine gives_put hE h (by decide) (by omega) fun _ h => ?_
       simp [ht,u0]
       exact k _ (h.more (by omega))
     · simp [ht,u0,hr]
       obtain ⟨r,H2,e1,r1,r3,h⟩:=callee_ok hE hN hl h hp0 hp3
       obtain ⟨s,hs,e2⟩:=itoa_ok hE r (by omega) (by omega) H2
       have f1:=fun a b=>bin_cat2 a b ⟨#[112]⟩ s (by rw [c1];omega)
       have f2:=fun a b=>bin_cat2 a b (⟨#[112]⟩ ++ s) ⟨#[40]⟩ (by rw [ByteArray.size_append,c1,c2];omega)
       simp [ht,u0,e1,e2,f1,f2]
       refine gives_put hE h (s:=⟨#[112]⟩ ++ s ++ ⟨#[40]⟩) (by simp only [ByteArray.size_append,c1,c2];omega) (by omega) fun _ h => ?_
       simp [ht,u0]
       refine gives_expr hE hN hl 1 (by omega) h hin rfl (by omega) fun _ h => ?_
       simp [ht,u0]
       refine gives_put hE h (by decide) (by omega) fun _ h => ?_
       simp [ht,u0]
       exact k _ (h.more (by omega))
   · simp [ht,u0,u4,o1,hp]
     obtain ⟨r,H2,e1,r1,r3,h⟩:=callee_ok hE hN hl h hp0 hp3
     obtain ⟨s,hs,e2⟩:=itoa_ok hE r (by omega) (by omega) H2
     have f1:=fun a b=>bin_cat2 a b ⟨#[112]⟩ s (by rw [c1];omega)
     have f2:=fun a b=>bin_cat2 a b (⟨#[112]⟩ ++ s) ⟨#[40]⟩ (by rw [ByteArray.size_append,c1,c2];omega)
     simp [ht,u0,e1,e2,f1,f2]
     refine gives_put hE h (s:=⟨#[112]⟩ ++ s ++ ⟨#[40]⟩) (by simp only [ByteArray.size_append,c1,c2];omega) (by omega) fun _ h => ?_
     simp [ht,u0]
     refine gives_expr hE hN hl 1 (by omega) h hin rfl (by omega) fun _ h => ?_
     simp [ht,u0]
     refine gives_put hE h (by decide) (by omega) fun _ h => ?_
     simp [ht,u0]
     exact k _ (h.more (by omega))
end
theorem MKx.turn2 {H0 H:Heap} {mid:Nat} {nv:Value} {N:List Int} {lo hi:Nat} {p:Int} {inn:ByteArray} (h:MKx H0 H mid nv N lo hi p inn):∃ (a:Nat) (left:Int) (b:Option Addr) (n:Nat),H.get mid = .row true 0 1 [nv,.int .i64 a,.slice b n n,.int .i64 p,.string inn,.int .i64 left] ∧
  ∀ (p':Int),MKx H0 (H.set mid (.row true 0 1 [nv,.int .i64 a,.slice b n n,.int .i64 p',.string inn,.int .i64 left])) mid nv N lo hi p' inn:=by
 obtain ⟨a,left,ov,out,hm⟩:=h
 obtain ⟨b,rfl⟩:=hm.go.slice
 exact ⟨a,left,b,out.length,hm.obj,fun p'=>⟨a,left,_,out,MK.turn hm hm.ha p' inn left⟩⟩
def bX:Nat:=240 + bS 2
def TxI (H0:Heap) (mid:Nat) (nv:Value) (N:List Int) (lo hi:Nat) (m:Nat) (t:List Value) (K:Heap):Prop :=
 ∃ i:Nat,i ≤ 3∧m=3 - i∧rd t 4 = .int .i64 ((i:Int) + 1)∧∃ p,MKx H0 K mid nv N lo (hi + i * bX) p ByteArray.empty
section
variable {E:Hooks} (hE:Plain E) {H0:Heap} {mid:Nat} {nv:Value} {N:List Int} (hN:SL H0 nv N) (hl:N.length ≤ 100000)
include hE
theorem gives_putB {H:Heap} {lo hi:Nat} {p:Int} {inn:ByteArray} (h:MKx H0 H mid nv N lo hi p inn) (B:Nat) {s:ByteArray} {Q:Out→Heap→Prop} (hs:s.size ≤ B) (hb:hi + B ≤ 900000000)
  (k:∀ H',MKx H0 H' mid nv N lo (hi + B) p inn→Q (.val (.tuple #[])) H'):Gives ((run Tryz.prog E).call 26 [.pointer (some ⟨mid,0,none⟩),.string s] H) Q:=by
 obtain ⟨H',e,h'⟩:=put_ok hE h s (by omega)
 exact ⟨_,_,e,k H' ((h'.low (Nat.le_add_right _ _)).more (by omega))⟩
theorem gives_put1 {H:Heap} {lo hi:Nat} {p:Int} {inn:ByteArray} (h:MKx H0 H mid nv N lo hi p inn) (B:Nat) {s:ByteArray} {Q:Out→Heap→Prop} (h1:1 ≤ s.size) (hs:s.size ≤ B) (hb:hi + B ≤ 900000000)
  (k:∀ H',MKx H0 H' mid nv N 1 (hi + B) p inn→Q (.val (.tuple #[])) H'):Gives ((run Tryz.prog E).call 26 [.pointer (some ⟨mid,0,none⟩),.string s] H) Q:=by
 obtain ⟨H',e,h'⟩:=put_ok hE h s (by omega)
 exact ⟨_,_,e,k H' ((h'.low (by omega)).more (by omega))⟩
include hN hl
theorem stmts_ok {p:Int} (hp0:0 ≤ p) (hp3:p ≤ 3):∀ d:Nat,d ≤ 3→StmtOK E H0 mid nv N p 30 d (bS d):=by
 intro d
 induction d with
 | zero=>exact fun hd=>stmts_of hE hN hl (stmt_of hE hN hl hp0 hp3 hd (fun e he=>by cases he))
 | succ d ih=>exact fun hd=>stmts_of hE hN hl (stmt_of hE hN hl hp0 hp3 hd (fun e he=>by cases he;exact ih (by omega)))
theorem gives_stmts (d:Nat) (hd:d ≤ 3) {H:Heap} {lo hi:Nat} {p:Int} {inn:ByteArray} (h:MKx H0 H mid nv N lo hi p inn) (hin:InOK inn) (hp0:0 ≤ p) (hp3:p ≤ 3) {z:Int} {Q:Out→Heap→Prop} (hz:z=d) (hb:hi + bS d ≤ 800000000)
  (k:∀ H',MKx H0 H' mid nv N lo (hi + bS d) p inn→Q (.val (.tuple #[])) H'):Gives ((run Tryz.prog E).call 30 [.pointer (some ⟨mid,0,none⟩),.int .i64 z] H) Q:=by
 subst hz
 exact stmts_ok hE hN hl hp0 hp3 d hd h hin hb k
end
section
variable {E:Hooks} (hE:Plain E)
include hE
theorem c_mtext (args:List Value) (H:Heap):(run Tryz.prog E).call 10 args H=callB Tryz.prog E Tryz.f10 args H:=call_B Tryz.func10 rfl (by decide +kernel) (hE.no _ rfl rfl) args H
theorem text_ok {H:Heap} {nv:Value} {N:List Int} (hN:SL H nv N) (hl:N.length ≤ 100000):∃ (b:Option Addr) (out:List UInt8) (H':Heap),(run Tryz.prog E).call 10 [nv] H=some (.val (.slice b out.length out.length),H')∧Same (fun _=>False) H H'∧OutS H' (fun i=>H.n ≤ i) (.slice b out.length out.length) out∧1 ≤ out.length∧out.length ≤ 100000000:=by
 suffices key:Gives ((run Tryz.prog E).call 10 [nv] H) fun o H'=>∃ (b:Option Addr) (out:List UInt8),o = .val (.slice b out.length out.length)∧Same (fun _=>False) H H'∧OutS H' (fun i=>H.n ≤ i) (.slice b out.length out.length) out∧1 ≤ out.length∧out.length ≤ 100000000 by
  obtain ⟨o,H',e,b,out,rfl,k⟩:=key
  exact ⟨b,out,H',e,k⟩
 obtain ⟨b0,n0,c0,rfl⟩:=hN.slice
 have hbX:bX=240 + bS 2:=rfl
 have hS2:bS 2 ≤ 2000000:=by decide +kernel
 have hS1:bS 1 ≤ 1000000:=by decide +kernel
 have hF:bF ≤ 10000:=by decide +kernel
 have c1:(⟨#[112,114,111,99,101,100,117,114,101,32,112]⟩:ByteArray).size=11:=rfl
 have c2:(⟨#[40,120,41,59,10,98,101,103,105,110,32]⟩:ByteArray).size=11:=rfl
 have h:MKx H (H.push (.row true 0 1 [.slice b0 n0 c0,.int .i64 ((0:Nat):Int),.slice none 0 0,.int .i64 0,.string ByteArray.empty,.int .i64 60])) H.n (.slice b0 n0 c0) N 0 0 0 ByteArray.empty :=
  ⟨0,60,.slice none 0 0,[],Same.push _ _ _,Nat.le_refl _,Heap.get_push_self _ _,Nat.zero_le _,.inl ⟨rfl,rfl⟩,Nat.le_refl _,Nat.le_refl _⟩
 rw [c_mtext hE,callB,bodyOf]
 simp [Tryz.f10]
 refine gives_put1 hE h 80 (by decide) (by decide) (by omega) fun _ h => ?_
 simp
 refine gives_next hE hN hl h (by omega) (by omega) fun r H2 r1 r2 h => ?_
 obtain ⟨s,hs,e⟩:=itoa_ok hE (1 + r) (by omega) (by omega) H2
 simp [wrap64 (1 + r) (by omega) (by omega),e]
 refine gives_putB hE h 80 (by omega) (by omega) fun _ h => ?_
 simp
 refine gives_putB hE h 80 (by decide) (by omega) fun _ h => ?_
 simp
 refine gives_next hE hN hl h (by omega) (by omega) fun r H2 r1 r2 h => ?_
 obtain ⟨s,hs,e⟩:=itoa_ok hE (1 + r) (by omega) (by omega) H2
 simp [wrap64 (1 + r) (by omega) (by omega),e]
 refine gives_putB hE h 80 (by omega) (by omega) fun _ h => ?_
 simp
 refine gives_putB hE h 80 (by decide) (by omega) fun _ h => ?_
 simp
 refine gives_num hE hN hl h (by omega) (by omega) (by omega) fun _ h => ?_
 simp
 refine gives_putB hE h 80 (by decide) (by omega) fun K0 h => ?_
 simp
 refine loop_mid2 (fun t K=>∃ p,MKx H K H.n (.slice b0 n0 c0) N 1 (600 + 3 * bX) p ByteArray.empty) (TxI H H.n (.slice b0 n0 c0) N 1 600) 3 ?_ ?_ ?_
 · exact ⟨0,by omega,rfl,by simp,0,h.more (by omega)⟩
 · rintro m t K hkk ⟨i,hi',rfl,g4,p,h⟩
   have ht:t.length=77:=hkk.1.trans (by simp [len_Bs])
   have hh:=hkk.all [0,3] (by decide +kernel)
   simp at hh
   obtain ⟨u0,u3⟩:=hh
   have him:i * bX ≤ 3 * bX:=Nat.mul_le_mul_right _ hi'
   rcases Nat.lt_or_ge i 3 with hlt | hge
   · obtain ⟨a,left,b,n,o1,htn⟩:=h.turn2
     have h:=htn ((i:Int) + 1)
     have w1:IntKind.i64.wrap ((i:Int) + 1 + 1)=(i:Int) + 1 + 1:=wrap64 _ (by omega) (by omega)
     obtain ⟨s,hs,e⟩:=itoa_ok hE ((i:Int) + 1) (by omega) (by omega) (K.set H.n (.row true 0 1 [.slice b0 n0 c0,.int .i64 a,.slice b n n,.int .i64 ((i:Int) + 1),.string ByteArray.empty,.int .i64 left]))
     have f1:=fun a b=>bin_cat2 a b ⟨#[112,114,111,99,101,100,117,114,101,32,112]⟩ s (by rw [c1];omega)
     have f2:=fun a b=>bin_cat2 a b (⟨#[112,114,111,99,101,100,117,114,101,32,112]⟩ ++ s) ⟨#[40,120,41,59,10,98,101,103,105,110,32]⟩ (by rw [ByteArray.size_append,c1,c2];omega)
     simp [ht,u3,g4,o1,show (i:Int) + 1 ≤ 3 by omega,e,f1,f2]
     refine gives_putB hE h 80 (s:=⟨#[112,114,111,99,101,100,117,114,101,32,112]⟩ ++ s ++ ⟨#[40,120,41,59,10,98,101,103,105,110,32]⟩) (by simp only [ByteArray.size_append,c1,c2];omega) (by omega) fun _ h => ?_
     simp [ht,u3]
     refine gives_stmts hE hN hl 2 (by omega) h (.inl rfl) (by omega) (by omega) rfl (by omega) fun _ h => ?_
     simp [ht,u3]
     refine gives_putB hE h 80 (by decide) (by omega) fun _ h => ?_
     simp [ht,g4,w1]
     exact ⟨3 - (i + 1),by omega,i + 1,by omega,rfl,by simp [ht],_,h.more (by rw [Nat.add_mul];omega)⟩
   · simp [ht,g4,show ¬ (i:Int) + 1 ≤ 3 by omega]
     exact ⟨p,h.more (by omega)⟩
 · rintro t K hkk ⟨p,h⟩
   have ht:t.length=77:=hkk.1.trans (by simp [len_Bs])
   have hh:=hkk.all [3] (by decide +kernel)
   simp at hh
   obtain ⟨a,left,b,n,o1,htn⟩:=h.turn2
   have h:=htn 0
   simp [ht,hh,o1]
   refine gives_putB hE h 80 (by decide) (by omega) fun _ h => ?_
   simp [ht,hh]
   refine gives_next hE hN hl h (by omega) (by omega) fun r H2 r1 r2 h => ?_
   obtain ⟨s,hs,e⟩:=itoa_ok hE (1 + r) (by omega) (by omega) H2
   simp [ht,hh,wrap64 (1 + r) (by omega) (by omega),e]
   refine gives_putB hE h 80 (by omega) (by omega) fun _ h => ?_
   simp [ht,hh]
   refine gives_putB hE h 80 (by decide) (by omega) fun _ h => ?_
   simp [ht,hh]
   refine gives_stmts hE hN hl 2 (by omega) h (.inl rfl) (by omega) (by omega) rfl (by omega) fun _ h => ?_
   simp [ht,hh]
   refine gives_putB hE h 80 (by decide) (by omega) fun _ h => ?_
   simp [ht,hh]
   refine gives_fork hE hN hl h (.inl rfl) (by omega) (by omega) (by omega) fun _ h => ?_
   simp [ht,hh]
   refine gives_putB hE h 80 (by decide) (by omega) fun _ h => ?_
   simp [ht,hh]
   refine gives_stmts hE hN hl 1 (by omega) h (.inl rfl) (by omega) (by omega) rfl (by omega) fun _ h => ?_
   simp [ht,hh]
   refine gives_putB hE h 80 (by decide) (by omega) fun K9 h => ?_
   obtain ⟨a9,left9,ov9,out9,hm⟩:=h
   obtain ⟨b9,rfl⟩:=hm.go.slice
   have o9:=hm.obj
   simp [ht,hh,o9]
   exact ⟨b9,out9,⟨rfl,rfl⟩,⟨hm.kp.n,fun i hi _=>hm.kp.get i hi (Nat.not_le.2 hi)⟩,hm.go.move (Same.refl (fun _=>False) _) fun i hi _=>⟨hi.1,fun h=>h⟩,hm.lo,by have:=hm.hi;omega⟩
end
end Go.Vm.Make
namespace Go.Vm.Typing
open Go Go.Proofs Go.Vm.Parse Go.Vm.Scope Go.Vm.Make
attribute [local simp] repCells_succ writeAt rd_Fr toList_beq gpe gpn spe gse gsn op_index
theorem flat_ints {k:Nat} {x:Value} {o:AObj} (fa:FlatArg (isInt .i64) 1 k x o) {H:Heap} (hH:H.get k=o):∃ N:List Int,SL H x N:=by
 obtain ⟨base,len,cap,cs,rfl,h1,h2,h3,h4,h5⟩:=fa
 have hb:∀ cs:List Value,(∀ c ∈ cs,isInt .i64 c)→∃ N:List Int,cs=N.map iv:=by
  intro cs
  induction cs with
  | nil=>intro _;exact ⟨[],rfl⟩
  | cons c cs ih =>
   intro h
   obtain ⟨N,hN⟩:=ih fun c hc=>h c (by simp [hc])
   obtain ⟨n,hn,_⟩:=h c (by simp)
   exact ⟨n :: N,by simp [hn,← hN]⟩
 rcases h5 with ⟨rfl,rfl,rfl,rfl⟩ | ⟨rfl,rfl⟩
 · exact ⟨[],none,0,rfl,.inl ⟨rfl,rfl⟩⟩
 · obtain ⟨N,rfl⟩:=hb cs h4
   simp at h3
   refine ⟨N.take len,some ⟨k,0,none⟩,cap,?_,.inr ⟨k,0,false,0,0,_,rfl,hH,?_,?_⟩⟩
   · simp only [List.length_take];rw [Nat.min_eq_left (by omega)]
   · simp;omega
   · simp only [List.length_take,Nat.min_eq_left (show len ≤ N.length by omega),List.drop_zero,List.map_take]
theorem c_truth (args:List Value) (H:Heap):(run Tryz.prog noHooks).call 12 args H=callB Tryz.prog noHooks Tryz.f12 args H:=call_B Tryz.func12 rfl (by decide +kernel) rfl args H
theorem c_exprs27 (args:List Value) (H:Heap):(run Tryz.prog noHooks).call 4 args H=callB Tryz.prog noHooks Tryz.f4 args H:=call_B Tryz.func4 rfl (by decide +kernel) rfl args H
theorem pl_exprs0:planOf Tryz.prog (drawN Tryz.f4 0)=some [some (0,2),some (0,2),none,none,some (1,1),some (0,1),none,none,none,none]:=by decide +kernel
theorem no_exprs1:planOf Tryz.prog (drawN Tryz.f4 1)=none:=by decide +kernel
theorem no_exprs2:planOf Tryz.prog (drawN Tryz.f4 2)=none:=by decide +kernel
theorem at_exprs1 : ∃ os, lateAt (drawN Tryz.f4 1) = some ⟨9, 19, 48, os⟩ ∧ os.op = .store 48 (.tmp 19) (.tmp 90) := ⟨((drawN Tryz.f4 1)[11]?).getD ⟨none, .assign (.const (.bool false)), 0, "", #[], none⟩, by rfl, by rfl⟩
theorem at_exprs2 : ∃ os, lateAt (drawN Tryz.f4 2) = some ⟨8, 21, 48, os⟩ ∧ os.op = .store 48 (.tmp 21) (.tmp 98) := ⟨((drawN Tryz.f4 2)[10]?).getD ⟨none, .assign (.const (.bool false)), 0, "", #[], none⟩, by rfl, by rfl⟩
theorem pl_exprs1:planOf Tryz.prog (lateA (drawN Tryz.f4 1))=some [some (0,1),some (0,1),none,none,some (0,1),none,none,none,none,some (0,2),none]:=by decide +kernel
theorem pl_exprs2:planOf Tryz.prog (lateA (drawN Tryz.f4 2))=some [some (0,1),none,none,some (0,1),none,none,none,none,some (0,2),none]:=by decide +kernel
theorem z_flt:zeroT Tryz.prog 48=some (.agg ⟨[.int .i64 0,.int .i64 0]⟩):=by kernel_rfl
theorem v_flt (cs:List Value):varObj Tryz.prog 48 cs = .row true 0 1 cs:=by unfold varObj;simp
def TokS (H:Heap) (v:Value) (L:List Tk):Prop:=(v = .slice none 0 0∧L=[])∨∃ id tl,tl ≤ 1∧v = .slice (some ⟨id,0,none⟩) L.length L.length∧H.get id = .row true tl 4 (flatT L)
theorem TokS.slice {H:Heap} {v:Value} {L:List Tk} (h:TokS H v L):∃ b,v = .slice b L.length L.length:=by
 rcases h with ⟨rfl,rfl⟩ | ⟨id,tl,_,rfl,_⟩
 · exact ⟨none,rfl⟩
 · exact ⟨_,rfl⟩
theorem TokS.keep {H H':Heap} {v:Value} {L:List Tk} (h:TokS H v L) (k:Same (fun _=>False) H H'):TokS H' v L:=by
 refine h.imp id ?_
 rintro ⟨id,tl,h1,h2,h3⟩
 exact ⟨id,tl,h1,h2,k.at h3 (by simp) fun h=>h⟩
theorem TokS.some {H:Heap} {v:Value} {L:List Tk} (h:TokS H v L) (hl:0 < L.length):∃ id tl,tl ≤ 1∧v = .slice (some ⟨id,0,none⟩) L.length L.length∧H.get id = .row true tl 4 (flatT L):=by
 rcases h with ⟨rfl,rfl⟩ | h
 · cases hl
 · exact h
def XqI (K3:Heap) (L:List Tk) (m:Nat) (t:List Value) (K:Heap):Prop:=∃ i:Nat,i ≤ L.length∧m=L.length - i∧rd t 14 = .int .i64 i∧Same (fun _=>False) K3 K
theorem all_any {H:Heap} {S:Nat→Prop} {ov:Value} {out:List UInt8} (g:OutS H S ov out):∃ (v:Value) (L:List Tk) (c a:Int) (K:Heap),(run Tryz.prog noHooks).call 13 [ov] H=some (.val (.tuple #[v,.agg ⟨[.int .i64 c,.int .i64 a]⟩]),K)∧Same (fun _=>False) H K∧TokS K v L∧NumsOK L∧L.length ≤ 10000:=by
 by_cases hb:4096 < out.length
 · obtain ⟨b,rfl⟩:=g.slice
   obtain ⟨K,e,k⟩:=all_long plain0 (H:=H) (b:=b) (cap:=out.length) hb
   exact ⟨_,[],_,_,K,e,k,.inl ⟨rfl,rfl⟩,(by intro t ht;cases ht),by simp⟩
 · have hall:AllOK noHooks H ov out:=by
    rcases g with ⟨rfl,rfl⟩ | ⟨id,tl,rfl,htl,hS,hg⟩
    · exact AllOK.nil plain0 H
    · exact AllOK.bs plain0 (sid:=id) (off:=0) (cap:=out.length) ⟨true,tl,1,_,hg,by simp,Nat.le_refl _,by rw [List.drop_zero];exact List.take_of_length_le (by simp)⟩ (by omega)
   obtain ⟨q,hq⟩:=lex_ans out (out.length + 1) 0 [] (Nat.zero_le _) (by omega)
   obtain ⟨o,K,e,k,hr⟩:=hall q hq H (Same.refl _ _)
   cases q with
   | inr f =>
    obtain ⟨c,a⟩:=f
    simp only at hr
    subst hr
    exact ⟨_,[],c,a,K,e,k,.inl ⟨rfl,rfl⟩,(by intro t ht;cases ht),by simp⟩
   | inl L =>
    simp only at hr
    obtain ⟨id,hid,rfl,tl,htl,hrow⟩:=hr
    have hl:=lexFrom_len hq
    simp at hl
    exact ⟨_,L,0,0,K,e,k,.inr ⟨id,tl,htl,rfl,hrow⟩,lexFrom_nums (by intro t ht;cases ht) hq,by omega⟩
def ExJ1 (Hb:Heap) (si tid rtid:Nat) (p:Int) (mv:Value) (M:List Int) (t:List Value) (K:Heap):Prop :=
 t.length=108∧rd t 2 = .int .i64 p∧rd t 7 = .pointer (some ⟨si,0,none⟩)∧rd t 8 = .pointer (some ⟨tid,0,none⟩)∧rd t 9 = .pointer (some ⟨rtid,0,none⟩)∧∃ (mid:Nat) (pp:Int) (inn:ByteArray),InOK inn∧rd t 11 = .pointer (some ⟨mid,0,none⟩)∧MKx Hb K mid mv M 0 0 pp inn
theorem exprs_walk (x0:Value) (o0:AObj) (fa0:FlatArg (isInt .i64) 1 0 x0 o0) (x1:Value) (o1:AObj) (fa1:FlatArg (isInt .i64) 1 1 x1 o1) (p:Int) (hp:Lit.wf (.int .i64 p)=true) :
  Gives ((run Tryz.prog noHooks).call 4 [x0,x1,.int .i64 p] ((Heap.empty.push o0).push o1)) fun o _=>o = .val (.bool true):=by
 have h0:((Heap.empty.push o0).push o1).get 0=o0:=by rw [Heap.get_push,if_neg (by simp [Heap.empty])];exact Heap.get_push_self _ _
 have h1:((Heap.empty.push o0).push o1).get 1=o1:=Heap.get_push_self (Heap.empty.push o0) o1
 obtain ⟨N,hN⟩:=flat_ints fa0 h0
 obtain ⟨M,hM⟩:=flat_ints fa1 h1
 generalize (Heap.empty.push o0).push o1=H at *
 clear h0 h1 fa0 fa1
 obtain ⟨b0,n0,c0,rfl⟩:=hN.slice
 obtain ⟨b1,n1,c1,rfl⟩:=hM.slice
 have e0:=hN.len
 have e1:=hM.len
 simp only [lenA,Option.some.injEq] at e0 e1
 subst e0
 subst e1
 rw [c_exprs27,callB,bodyOf]
 by_cases hn:200 < N.length
 · obtain ⟨H2,e2⟩:=awake27 H
   simp [Tryz.f4,show (200:Int) < N.length by omega,e2]
 have hn':¬ (200:Int) < N.length:=by omega
 by_cases hm:60 < M.length
 · obtain ⟨H2,e2⟩:=awake27 H
   simp [Tryz.f4,hn',show (60:Int) < M.length by omega,e2]
 have hm':¬ (60:Int) < M.length:=by omega
 obtain ⟨b,out,H1,eT,kT,gO,o1,o2⟩:=text_ok plain0 hN (by omega)
 have hcv:exConvert Tryz.prog 24 9 (.slice b out.length out.length) H1=some (.string ⟨⟨out⟩⟩,H1):=by
  rcases gO with ⟨e,rfl⟩ | ⟨id,tl,e,htl,hS,hg⟩
  · cases o1
  · cases e
    exact conv_str (sid:=id) (off:=0) (cap:=out.length) ⟨true,tl,1,_,hg,by simp,Nat.le_refl _,by rw [List.drop_zero];exact List.take_of_length_le (by simp)⟩ _ rfl
 have fr:∃ (res:Src ⊕ (Int × Int)) (o:Out) (H2:Heap),(run Tryz.prog noHooks).call 9 [.string ⟨⟨out⟩⟩] H1=some (o,H2)∧FrontQ H1 res o H2:=by
  by_cases hb:out.length ≤ 4096
  · obtain ⟨n,res,hx⟩:=parse_ans out
    obtain ⟨o,H2,e,q⟩:=front_run plain0 (H:=H1) (b:=⟨⟨out⟩⟩) hb hx
    exact ⟨res,o,H2,e,q⟩
  · obtain ⟨o,H2,e,q⟩:=front_long plain0 (H:=H1) (b:=⟨⟨out⟩⟩) (show 4096 < out.length by omega)
    exact ⟨_,o,H2,e,q⟩
 obtain ⟨res,o,H2,eF,k2,y,a1,a2,a3,b1',b2,b3,c1',c2,c3,d1,d2,d3,t,w,f,rfl,hf⟩:=fr
 simp only [sr5] at eF
 cases f with
 | false =>
  obtain ⟨H3,e3⟩:=awake27 (H2.push (.row true 0 1 [.string y,.slice a1 a2 a3,.slice b1' b2 b3,.slice c1' c2 c3,.slice d1 d2 d3]))
  simp [Tryz.f4,hn',hm',eT,hcv,eF,e3]
 | true =>
  cases res with
  | inr q=>cases hf
  | inl S =>
   simp only [] at hf
   cases hr:rbuildB S with
   | error q=>rw [hr] at hf;cases hf
   | ok R =>
    rw [hr] at hf
    obtain ⟨_,tid,rtid,n,col,col',T,nid,pid,rid,v1,v2,v3,v4,v5,w1,w2,w3,w4,w5,w6,rfl,rfl,hT,hR,ha,hok,rok,hgd,hS,sok,hnn⟩:=hf
    obtain ⟨os1,ea1,eo1⟩:=at_exprs1
    obtain ⟨os2,ea2,eo2⟩:=at_exprs2
    obtain ⟨w,_,hw4,ew⟩:=within_any27 plain0 hp 0 4 (by omega) (by omega) (by omega)
    obtain ⟨k,_,hk,ek⟩:=within_any27 plain0 hp 0 2 (by omega) (by omega) (by omega)
    obtain ⟨m,_,hm1,em⟩:=within_any27 plain0 hp 0 1 (by omega) (by omega) (by omega)
    simp [Tryz.f4,hn',hm',eT,hcv,eF]
    have kp:Same (fun _=>False) H2 (H2.push (.row true 0 1 [.string y,.slice a1 a2 a3,.slice b1' b2 b3,.slice c1' c2 c3,.slice d1 d2 d3])):=Same.push _ _ _
    have gs:(H2.push (.row true 0 1 [.string y,.slice a1 a2 a3,.slice b1' b2 b3,.slice c1' c2 c3,.slice d1 d2 d3])).get H2.n = .row true 0 1 [.string y,.slice a1 a2 a3,.slice b1' b2 b3,.slice c1' c2 c3,.slice d1 d2 d3]:=Heap.get_push_self H2 _
    have hT:=hT.keep kp fun _ h=>h.elim
    have hR:=hR.keep kp fun _ h=>h.elim
    have hM:=hM.same ((kT.trans k2).trans kp).all
    generalize hHb:H2.push (.row true 0 1 [.string y,.slice a1 a2 a3,.slice b1' b2 b3,.slice c1' c2 c3,.slice d1 d2 d3])=Hb at *
    generalize H2.n=si at *
    refine ends_cut (ExJ1 Hb si tid rtid p (.slice b1 M.length c1) M) ?_ ?_
    · refine region_plan (by exact pl_exprs0) ?_
      obtain ⟨inn,hin,ix⟩:∃ s:ByteArray,InOK s∧∀ HH,idxA Tryz.prog 40 (some (.agg ⟨[.string ⟨#[]⟩,.string ⟨#[118]⟩,.string ⟨#[119]⟩]⟩)) (some (.int .i64 (k:Int))) HH=some (.val (.string s),HH):=by
       rcases (show k=0∨k=1∨k=2 by omega) with rfl | rfl | rfl
       · exact ⟨_,.inl rfl,fun HH=>idxA_arr Tryz.underlying40 (by simp) (by simp) (by omega) (by decide) rfl HH⟩
       · exact ⟨_,.inr (.inl rfl),fun HH=>idxA_arr Tryz.underlying40 (by simp) (by simp) (by omega) (by decide) rfl HH⟩
       · exact ⟨_,.inr (.inr rfl),fun HH=>idxA_arr Tryz.underlying40 (by simp) (by simp) (by omega) (by decide) rfl HH⟩
      simp [drawF,ek,em,ix,len_Bs]
      refine ⟨by simp [len_Bs],by simp [len_Bs],by simp [len_Bs],by simp [len_Bs],by simp [len_Bs],Hb.n,(m:Int),inn,hin,by simp [len_Bs],0,0,.slice none 0 0,[],Same.push _ _ _,Nat.le_refl _,Heap.get_push_self _ _,Nat.zero_le _,.inl ⟨rfl,rfl⟩,Nat.le_refl _,Nat.le_refl _⟩
    rintro t K ⟨ht,u2,u7,u8,u9,mid,pp,inn,hin,u11,hK⟩
    simp [ht,u11]
    rw [c_truth,callB,bodyOf]
    simp [Tryz.f12]
    refine gives_cond plain0 hM (by omega) 3 (by omega) hK hin rfl (by decide +kernel) fun K1 h => ?_
    obtain ⟨a',left',ov,out2,hm2⟩:=h
    obtain ⟨v,L,ca,aa,K2,eA,kA,gL,hNum,hLl⟩:=all_any hm2.go
    obtain ⟨b9,rfl⟩:=hm2.go.slice
    obtain ⟨bv,rfl⟩:=gL.slice
    have ob:=hm2.obj
    have k1:Same (fun _=>False) Hb K1:=⟨hm2.kp.n,fun i hi _=>hm2.kp.get i hi (Nat.not_le.2 hi)⟩
    simp [ht,u11,ob,eA]
    have kHb:Same (fun _=>False) Hb (K2.push (.row true 0 1 [.int .i64 ca,.int .i64 aa])):=(k1.trans kA).then_push _
    have gL3:=gL.keep (Same.push (fun _=>False) K2 (.row true 0 1 [.int .i64 ca,.int .i64 aa]))
    generalize K2.push (.row true 0 1 [.int .i64 ca,.int .i64 aa])=K3 at *
    have hT3:=hT.keep kHb fun _ h=>h.elim
    have hR3:=hR.keep kHb fun _ h=>h.elim
    have gs3:=kHb.at gs (by simp) (fun h=>h)
    clear hK gL
    refine loop_mid2 (fun t K=>Same (fun _=>False) K3 K) (XqI K3 L) L.length ?_ ?_ ?_
    · exact ⟨0,Nat.zero_le _,by simp,by simp [ht],Same.refl _ _⟩
    · rintro m' t' K hkk ⟨i,hi,rfl,g14,kK⟩
      have ht2:t'.length=108:=hkk.1.trans (by simp [ht])
      have hh:=hkk.all [2,7,8,9,12] (by decide +kernel)
      simp [ht,u2,u7,u8,u9] at hh
      obtain ⟨r2,r7,r8,r9,r12⟩:=hh
      have wi:IntKind.i64.wrap ((i:Int) + 1)=(i:Int) + 1:=wrap64 _ (by omega) (by omega)
      rcases Nat.lt_or_ge i L.length with hlt | hge
      · by_cases h20:(i:Int) < 20
        · obtain ⟨id,tl,htl,eL,hrow⟩:=gL3.some (by omega)
          cases eL
          have hrowK:=kK.at hrow (by simp) (fun h=>h)
          obtain ⟨n9,⟨e,s⟩,hx⟩:=(row_ans L ⟨i,0,0⟩ 1).some
          obtain ⟨o9,K4,e4,k4,hq⟩:=rexpr_walk plain0 hrowK (by omega) (Nat.le_of_lt hlt) (by omega) (by omega) hx
          by_cases hc:s.c=0
          · rw [if_pos hc] at hq
            obtain ⟨cs,rfl,hRE⟩:=hq
            obtain ⟨q1,q2,q3,q4,z,bx,mx,rfl⟩:=Typing.RE.six hRE
            have wf:WFx e:=x_wf hNum _ _ _ _ _ hx hc trivial
            simp [ht2,r2,r7,r8,r9,r12,g14,hlt,h20,e4]
            have nn:=(kK.trans k4).n
            have k5:Same (fun _=>False) K4 ((((K4.push (.row true 0 1 [.int .i64 0,.int .i64 0,.int .i64 0,.int .i64 0,.string ByteArray.empty,.slice none 0 0])).push (.row true 0 1 [.int .i64 0,.int .i64 0])).set K4.n (.row true 0 1 [.int .i64 q1,.int .i64 q2,.int .i64 q3,.int .i64 q4,.string z,.slice bx mx mx])).set (K4.n + 1) (.row true 0 1 [.int .i64 0,.int .i64 0])):=(((Same.push _ _ _).then_push _).then_set (by simp;omega) (.inr (Nat.le_refl _)) _).then_set (by simp) (.inr (by omega)) _
            have g15:((((K4.push (.row true 0 1 [.int .i64 0,.int .i64 0,.int .i64 0,.int .i64 0,.string ByteArray.empty,.slice none 0 0])).push (.row true 0 1 [.int .i64 0,.int .i64 0])).set K4.n (.row true 0 1 [.int .i64 q1,.int .i64 q2,.int .i64 q3,.int .i64 q4,.string z,.slice bx mx mx])).set (K4.n + 1) (.row true 0 1 [.int .i64 0,.int .i64 0])).get K4.n = .row true 0 1 [.int .i64 q1,.int .i64 q2,.int .i64 q3,.int .i64 q4,.string z,.slice bx mx mx]:=by rw [Heap.get_set _ _ _ (by simp),if_neg (by simp)];exact Heap.get_set_self _ _ (by simp;omega)
            have g17:((((K4.push (.row true 0 1 [.int .i64 0,.int .i64 0,.int .i64 0,.int .i64 0,.string ByteArray.empty,.slice none 0 0])).push (.row true 0 1 [.int .i64 0,.int .i64 0])).set K4.n (.row true 0 1 [.int .i64 q1,.int .i64 q2,.int .i64 q3,.int .i64 q4,.string z,.slice bx mx mx])).set (K4.n + 1) (.row true 0 1 [.int .i64 0,.int .i64 0])).get (K4.n + 1) = .row true 0 1 [.int .i64 0,.int .i64 0]:=Heap.get_set_self _ _ (by simp)
            have n5:((((K4.push (.row true 0 1 [.int .i64 0,.int .i64 0,.int .i64 0,.int .i64 0,.string ByteArray.empty,.slice none 0 0])).push (.row true 0 1 [.int .i64 0,.int .i64 0])).set K4.n (.row true 0 1 [.int .i64 q1,.int .i64 q2,.int .i64 q3,.int .i64 q4,.string z,.slice bx mx mx])).set (K4.n + 1) (.row true 0 1 [.int .i64 0,.int .i64 0])).n=K4.n + 2:=rfl
            generalize (((K4.push (.row true 0 1 [.int .i64 0,.int .i64 0,.int .i64 0,.int .i64 0,.string ByteArray.empty,.slice none 0 0])).push (.row true 0 1 [.int .i64 0,.int .i64 0])).set K4.n (.row true 0 1 [.int .i64 q1,.int .i64 q2,.int .i64 q3,.int .i64 q4,.string z,.slice bx mx mx])).set (K4.n + 1) (.row true 0 1 [.int .i64 0,.int .i64 0])=K5 at *
            have k35:Same (fun _=>False) K3 K5:=(kK.trans k4).trans k5
            have k36:Same (fun _=>False) K3 (K5.push .dead):=k35.then_push _
            have k56:Same (fun _=>False) K5 (K5.push .dead):=Same.push _ _ _
            have gs6:=k36.at gs3 (by simp) (fun h=>h)
            have g156:=k56.at g15 (by simp) (fun h=>h)
            have gd6:(K5.push .dead).get K5.n = .dead:=Heap.get_push_self K5 _
            obtain ⟨K7,e7,k7⟩:=ttype_run plain0 ha hok hgd (hT3.keep k36 fun _ h=>h.elim) (RE.move (S':=fun _=>True) (k5.trans k56) (fun _ _ _=>⟨trivial,fun h=>h⟩) _ _ hRE) wf (p:=(w:Int)) (y:=y) (a1:=a1) (b1:=b1') (c1:=c1') (d1:=d1) (a2:=a2) (a3:=a3) (b2:=b2) (b3:=b3) (c2:=c2) (c3:=c3) (d2:=d2) (d3:=d3)
            have gs7:=k7.at gs6 (by simp) (fun h=>h)
            have g157:=k7.at g156 (by simp) (fun h=>h)
            have l57:K5.n < K7.n:=by have:=k7.n;simp at this;omega
            have gd7:K7.get K5.n = .dead:=(k7.get K5.n (by simp) (fun h=>h)).trans gd6
            refine region_late (by exact no_exprs1) (by exact ea1) (by exact pl_exprs1) (by exact z_flt) ?_
            simp [lateA,blank,ht2,r2,r7,r8,gs6,g156,ew,e7,gs7,g157]
            rw [exLast_go l57 gd7]
            have s7:∀ o,(K7.set K5.n o).get K5.n=o:=fun o=>Heap.get_set_self _ _ l57
            simp [eo1,v_flt,ht2,s7]
            have k78:∀ o,Same (fun i=>i=K5.n) K7 (K7.set K5.n o):=fun o=>Same.set (X:=fun i=>i=K5.n) K7 l57 rfl o
            have k38:Same (fun _=>False) K3 (K7.set K5.n (.row true 0 1 [.int .i64 (fc (exB R ⟨(w:Int),[],ByteArray.empty⟩ e)),.int .i64 (fa (exB R ⟨(w:Int),[],ByteArray.empty⟩ e))])):=(k36.trans k7).then (k78 _) fun i hi => .inr (by have:=k35.n;omega)
            have g19:=s7 (.row true 0 1 [.int .i64 (fc (exB R ⟨(w:Int),[],ByteArray.empty⟩ e)),.int .i64 (fa (exB R ⟨(w:Int),[],ByteArray.empty⟩ e))])
            have g158:=(k78 (.row true 0 1 [.int .i64 (fc (exB R ⟨(w:Int),[],ByteArray.empty⟩ e)),.int .i64 (fa (exB R ⟨(w:Int),[],ByteArray.empty⟩ e))])).at g157 (by simp) (by omega)
            have hR4:RE (K7.set K5.n (.row true 0 1 [.int .i64 (fc (exB R ⟨(w:Int),[],ByteArray.empty⟩ e)),.int .i64 (fa (exB R ⟨(w:Int),[],ByteArray.empty⟩ e))])) (fun _=>True) e [.int .i64 q1,.int .i64 q2,.int .i64 q3,.int .i64 q4,.string z,.slice bx mx mx]:=RE.move (S':=fun _=>True) (((k5.trans k56).trans k7).then (k78 _) fun i hi => .inr (by have:=k5.n;omega)) (fun _ _ _=>⟨trivial,fun h=>h⟩) _ _ hRE
            generalize hK8:K7.set K5.n (.row true 0 1 [.int .i64 (fc (exB R ⟨(w:Int),[],ByteArray.empty⟩ e)),.int .i64 (fa (exB R ⟨(w:Int),[],ByteArray.empty⟩ e))])=K8 at *
            have k39:Same (fun _=>False) K3 (K8.push .dead):=k38.then_push _
            have k89:Same (fun _=>False) K8 (K8.push .dead):=Same.push _ _ _
            have g159:=k89.at g158 (by simp) (fun h=>h)
            have g199:=k89.at g19 (by simp) (fun h=>h)
            have gd9:(K8.push .dead).get K8.n = .dead:=Heap.get_push_self K8 _
            obtain ⟨KA,eA2,kA2⟩:=rtype_run plain0 (hR3.keep k39 fun _ h=>h.elim) rok (RE.move (S':=fun _=>True) k89 (fun _ _ _=>⟨trivial,fun h=>h⟩) _ _ hR4) wf (p:=(w:Int))
            have g15A:=kA2.at g159 (by simp) (fun h=>h)
            have g19A:=kA2.at g199 (by simp) (fun h=>h)
            have l8A:K8.n < KA.n:=by have:=kA2.n;simp at this;omega
            have gdA:KA.get K8.n = .dead:=(kA2.get K8.n (by simp) (fun h=>h)).trans gd9
            have l58:K5.n < K8.n:=Heap.lt_of_get g19 (by simp)
            refine region_late (by exact no_exprs2) (by exact ea2) (by exact pl_exprs2) (by exact z_flt) ?_
            simp [lateA,blank,ht2,r2,r7,r8,r9,g159,ew,eA2,g15A]
            rw [exLast_go l8A gdA]
            have sA:∀ o,(KA.set K8.n o).get K8.n=o:=fun o=>Heap.get_set_self _ _ l8A
            have sA2:∀ o,(KA.set K8.n o).get K5.n=_:=fun o=>(Heap.get_set_ne _ _ o l8A _ (by omega)).trans g19A
            simp [eo2,v_flt,ht2,sA,sA2,fault_neq,g14,wi]
            exact ⟨L.length - (i + 1),by omega,i + 1,by omega,rfl,by simp [ht2],(k39.trans kA2).then_set l8A (.inr (by have:=k38.n;omega)) _⟩
          · rw [if_neg hc] at hq
            subst hq
            simp only [z6] at e4
            simp [ht2,r2,r7,r8,r9,r12,g14,hlt,h20,e4,hc]
            have n4:=(kK.trans k4).n
            exact ⟨L.length - (i + 1),by omega,i + 1,by omega,rfl,by simp [ht2,wi],((((kK.trans k4).then_push _).then_push _).then_set (by simp;omega) (.inr (by omega)) _).then_set (by simp) (.inr (by omega)) _⟩
        · simp [ht2,r12,g14,hlt,h20]
          exact kK
      · simp [ht2,r12,g14,show ¬ i < L.length by omega]
        exact kK
    · rintro t' K hkk kK
      have ht2:t'.length=108:=hkk.1.trans (by simp [ht])
      obtain ⟨H9,e9⟩:=awake27 K
      simp [ht2,e9]
end Go.Vm.Typing
